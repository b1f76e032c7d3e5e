import Derived.Test.YtfkblpjfknfgbaaGreatDoorRows
import Derived.Test.YtfkblpjfknfgbaaGreatDoorQ9
import Derived.Laws.EntriesVeiled
import Derived.BigQuiet
import Derived.Test.YtfkblpjfknfgbaaGreatDoorQ12
import Derived.Test.YtfkblpjfknfgbaaGreatDoorQ4
import Derived.Test.YtfkblpjfknfgbaaGreatDoorQ3
import Derived.Test.YtfkblpjfknfgbaaGreatDoorQ6
set_option linter.unusedVariables false
set_option linter.unusedSimpArgs false
set_option maxHeartbeats 8000000
set_option maxRecDepth 100000
open Go.Maps Go.RowKit
open Go.Lib (hid cell_of_heap frozen_of_heap wpList_append_run run_eql_slice_nil)
open Go.World (block_lt_of_cell?)
namespace Go.Proofs.YtfkblpjfknfgbaaGreatDoor
structure gu (w:World) (fb:Nat) (F:Fl):Prop where
 mem:∃(i:Ids) (v:Vs) (n:Nat),i.fb=fb∧w.heap[fb]?=some (.cells (pq i v F) 116 (0,0))∧xP w i.mb n (eH F.cls)∧Rd w 2 v.au F.au.length (bB F.au) ∧
  (∃us:List Value,Rd w 1 v.aI F.aI.length us∧us.length=F.aI.length∧∀(k:Nat) u a,us[k]?=some u→F.aI[k]?=some a→FS w u a)∧Rd w 5 v.cls F.cls.length (bG F.cls) ∧
  (∃rs:List (Rl×Value),rs.map (·.1)=F.rls∧Rd w 7 v.rls rs.length (aK rs)∧∀r∈rs,FS w r.2 r.1.next)
structure iU (F:Fl):Prop where
 au:F.au.length≤65536
 aI:F.aI.length≤65536
 cls:F.cls.length≤65536
 rls:F.rls.length≤65536
 flags:∀c∈F.cls,0 < c.flag∧c.flag≤65535
 sets:∀a∈F.aI,canon a=a∧∀x∈a,0≤x∧x≤65535
 nexts:∀r∈F.rls,canon r.next=r.next∧∀x∈r.next,0≤x∧x≤65535
 kind:1≤F.kind∧F.kind≤3
 sp:∀n,0≤dX F n∧dX F n≤65535
theorem gu.keep {w w':World} {fb:Nat} {F:Fl} (h:gu w fb F) (hb:Below w.heap.size w w'):gu w' fb F:=by
 obtain⟨i,v,n,h0,h1,h2,h3,⟨us,h4,h5,h6⟩,h7,rs,h8,h9,h10⟩:=h.mem
 exact⟨i,v,n,h0,(hb.block _ (block_lt h1)).trans h1,h2.below hb,h3.keep hb,⟨us,h4.keep hb,h5,fun k u a hu ha=>(h6 k u a hu ha).keep hb⟩,h7.keep hb,rs,h8,h9.keep hb,fun r hr=>(h10 r hr).keep hb⟩
theorem Bd.Vi {kh k:Nat} {S:Sx} (h:Bd kh k S):iU S.fl :=
 ⟨by have:=h.au;omega,by have:=h.aI;omega,by have:=h.cls;omega,by have:=h.rls;omega,h.flags,h.sets,h.nexts,h.kind,h.sp⟩
def pz:RX→Except (Int×Int) Fl
 | .error e=>.error e
 | .ok S=>match l9 S.fl with
   | some line=>.error (line,118)
   | none=>.ok S.fl
theorem rH (l:List UInt8) (h:¬65536 < l.length):gY l=pz (dS ((aV l).length+1) (rowsOf (aC l)).length ⟨wK,rowsOf (aC l),[],0⟩):=by
 rw [gY,if_neg h]
 rcases dS ((aV l).length+1) (rowsOf (aC l)).length ⟨wK,rowsOf (aC l),[],0⟩ with e | S<;>rfl
def Vj (line c:Int):Value:=.agg #[.int .i64 1,.int .i64 line,.int .i64 c]
def ME (l:List UInt8) (w:World) (e:Ending) (w':World):Prop:=Below w.heap.size w w'∧match gY l with
 | .error p=>e=.returned (.tuple #[.pointer none,Vj p.1 p.2])
 | .ok F=>∃fb,e=.returned (.tuple #[.pointer (some ⟨fb,0,none⟩),.agg #[.int .i64 0,.int .i64 0,.int .i64 0]])∧gu w' fb F∧iU F∧w.heap.size≤fb
theorem RM.BQ {w0 w w':World} {L L':List Nat} {i:Ids} {E:Int} {kh k:Nat} {S:Sx} (h:RM w0 w L i E kh k S) (hg:aZ L w L' w'):Below w0.heap.size w0 w':=by
 obtain⟨_,v,hv⟩:=h
 exact hv.base.trans (hg.1.below hv.base.size (fun x hx=>(hv.hl x hx).1))
theorem lq {l:List UInt8} {w w2 W:World} {line c:Int} {tmps:Array Value} (hf:w2.heap[w.heap.size]?=some (.cells #[.pointer none] 57 (0,0))∧w2.heap[w.heap.size+1]?=some (.cells #[.int .i64 0,.int .i64 0,.int .i64 0] 60 (0,0)))
  (hB:Below w.heap.size w w2) (hb:Below w2.heap.size w2 W) (ha:gY l=.error (line,c)) (h2:tmps[2]?.getD undef=.pointer (some ⟨w.heap.size,0,none⟩)) (h3:tmps[3]?.getD undef=.pointer (some ⟨w.heap.size+1,0,none⟩)) :
  bodyPostD Tryz.prog Tryz.f16 (ME l w) (Exit.panic [F5 line c]) { tmps:=tmps,defers:=[jJ w.heap.size (w.heap.size+1)] } W:=by
 refine JQ w.heap.size (w.heap.size+1) _ _ _ _ line c W tmps _ h2 h3 ((hb.block _ (block_lt hf.1)).trans hf.1) ((hb.block _ (block_lt hf.2)).trans hf.2) (by omega) (fun W' hk=>⟨?_,?_⟩)
 ·have h1:=hB.trans (hb.mono hB.size)
  exact h1.trans (hk.below h1.size (by intro x hx;simp at hx;omega))
 rw [ha];rfl
def Rh (W:World) (L:List Nat) (b:Nat):Prop:=b∉L∧DI W b 13
theorem DI.lt {W:World} {b n:Nat} (h:DI W b n):b < W.heap.size:=by
 obtain⟨D,hD,_⟩:=h
 exact hD.lt
theorem Rh.go {W W':World} {L L':List Nat} {b:Nat} (h:Rh W L b) (hg:aZ L W L' W'):Rh W' L' b :=
 ⟨fun hm=>by
  rcases hg.2 b hm with h1 | h1
  ·exact h.1 h1
  ·have:=h.2.lt;omega,h.2.keep hg.1 h.1⟩
theorem FS.kept {E:List Nat} {w w':World} {v:Value} {zs:List Int} (h:FS w v zs) (hk:Kept E w w') (hne:∀b∈E,∀j z,w.cell? ⟨b,j,none⟩≠some (.int .u16 z)):FS w' v zs:=by
 obtain⟨p,c,hv,hc,h⟩:=h
 refine⟨p,c,hv,hc,h.imp id ?_⟩
 rintro⟨b,off,hp,h2⟩
 refine⟨b,off,hp,fun j hj=>?_⟩
 have h3:=h2 j hj
 exact (hk.cell (p:=⟨b,off+j,none⟩) (block_lt_of_cell? w _ h3) (fun hm=>hne b hm _ _ h3)).trans h3
theorem bR.MF {E0:List Nat} {w0 w w':World} {L:List Nat} {i:Ids} {v:Vs} {E:Int} {S:Sx} {nx:List Int} {tf:Int→Int} {tn cn:Nat} (h:bR w0 w L i v E S nx tf tn (eH S.fl.cls) cn) (hk:Kept E0 w w') (hE:∀x∈E0,x < w0.heap.size) (hne:∀b∈E0,∀j z,w.cell? ⟨b,j,none⟩≠some (.int .u16 z)):gu w' i.fb S.fl:=by
 have ho:∀g∈L,g∉E0:=fun g hg hm=>by have:=(h.hl g hg).1;have:=hE g hm;omega
 obtain⟨us,h1,h2,h3⟩:=h.aI;obtain⟨rs,h4,h5,h6⟩:=h.rls
 refine⟨i,v,cn,rfl,hk.at h.file (ho _ h.oh),h.qN.keep hk (ho _ h.Fg),Rd.aN (hk.own h.au.1 (fun g hg=>ho _ (h.au.2 g hg))),⟨us,Rd.aN (hk.own h1.1 (fun g hg=>ho _ (h1.2 g hg))),h2,fun k u a hu ha=>((h3 k u a hu ha).fs).kept hk hne⟩,
  Rd.aN (hk.own h.cls.1 (fun g hg=>ho _ (h.cls.2 g hg))),rs,h4,Rd.aN (hk.own h5.1 (fun g hg=>ho _ (h5.2 g hg))),fun r hr=>((h6 r hr).fs).kept hk hne⟩
theorem Rh.start {W':World} {n b:Nat} (h:DI W' b 13) (hb:n+5≤b):Rh W' (rJ n) b:=⟨fun hm=>by simp [rJ] at hm;omega,h⟩
theorem F6 (s:ByteArray) (m0:Int) (w:World) (h0:0 < w.heap.size) (hm:w.cell? ⟨0,0,none⟩=some (.int .i64 m0)) :
  Calls Tryz.prog 16 #[.string s] w (ME s.data.toList w):=by
 obtain⟨wA,BR⟩:∃W,((w.alloc (.cells #[.pointer none] 57)).alloc (.cells #[.int .i64 0,.int .i64 0,.int .i64 0] 60))=W:=⟨_,rfl⟩
 have OP:Below w.heap.size w wA:=by rw [←BR];exact ((Below.refl _ _).alloc (Nat.le_refl _) _).alloc (by simp) _
 have hsA:wA.heap.size=w.heap.size+1+1:=by rw [←BR];simp
 have hfA:wA.heap[w.heap.size]?=some (.cells #[.pointer none] 57 (0,0)):=by
  rw [←BR,Below.heap_alloc _ _ _ (by simp)];exact heap_alloc_new w _
 have Pz:wA.heap[w.heap.size+1]?=some (.cells #[.int .i64 0,.int .i64 0,.int .i64 0] 60 (0,0)):=by
  have:=heap_alloc_new (w.alloc (.cells #[.pointer none] 57)) (.cells #[.int .i64 0,.int .i64 0,.int .i64 0] 60)
  rw [World.size_alloc] at this;rw [←BR];exact this
 have PD:wA.cell? ⟨0,0,none⟩=some (.int .i64 m0):=(OP.cell (block_lt_of_cell? _ _ hm)).trans hm
 have iG:=hid (DJ s m0 wA (by omega) PD)
 have BS:Hid (∀W,Below wA.heap.size wA W→Calls Tryz.prog 42 #[.string s] W fun e W'=>∃v,e=.returned (.tuple #[v,.int .i64 (if 65536 < s.size then 10 else 0)])∧W'.ownsRow W.heap.size 9 1 v (aC s.data.toList).length (DK (aC s.data.toList))∧Below W.heap.size W W'):=hid (fun W hW=>Ap s m0 W (by have:=hW.size;omega) ((hW.cell (block_lt_of_cell? _ _ PD)).trans PD))
 have HA:=hid (⟨OP,hsA,hfA,Pz,PD⟩:_∧_∧_∧_∧_);clear OP hsA hfA Pz PD hm
 by_cases hbig:65536 < s.size
 ·have HX:Hid (gY s.data.toList=.error (0,10)):=hid (by rw [gY,if_pos (by rw [ak];exact hbig)])
  unfold jB at iG;rw [if_pos hbig] at iG
  go_enter_defers Tryz.func16,Tryz.ntmps16
  obtain⟨OP,hsA,hfA,Pz,PD⟩:=HA.o;clear PD
  go_wp2_with (go_at_call 41;refine iG.o.mono ?_;rintro e w1 ⟨v,rs,rfl,how,hrr,habs,hb1⟩;have HB1:=hid (OP.trans (hb1.mono OP.size));have hf1:=(hb1.block _ (block_lt hfA)).trans hfA;have he1:=(hb1.block _ (block_lt Pz)).trans Pz;clear how hrr habs hb1;have q0:w1.cell? ⟨w.heap.size,0,none⟩=some (.pointer none):=by { rw [cell_of_heap hf1];rfl };have q1:w1.cell? ⟨w.heap.size+1,0,none⟩=some (.int .i64 0):=by { rw [cell_of_heap he1];rfl };have q2:w1.cell? ⟨w.heap.size+1,1,none⟩=some (.int .i64 0):=by { rw [cell_of_heap he1];rfl };have q3:w1.cell? ⟨w.heap.size+1,2,none⟩=some (.int .i64 0):=by { rw [cell_of_heap he1];rfl };have y0:=frozen_of_heap hf1 0;have y1:=frozen_of_heap he1 0;have y2:=frozen_of_heap he1 1;have y3:=frozen_of_heap he1 2)
  refine F7 w.heap.size (w.heap.size+1) (.pointer none) (.int .i64 1) (.int .i64 0) (.int .i64 10) _ _ _ rfl rfl ?_ ?_ ⟨?_,?_⟩
  ·rw [heap_setCell_other _ ⟨w.heap.size+1,2,none⟩ w.heap.size _ (by simp),heap_setCell_other _ ⟨w.heap.size+1,1,none⟩ w.heap.size _ (by simp),heap_setCell_other _ ⟨w.heap.size+1,0,none⟩ w.heap.size _ (by simp)]
   exact heap_setCell_same w1 w.heap.size 0 _ _ _ hf1
  ·have h1:=heap_setCell_same _ (w.heap.size+1) 0 _ _ (Value.int .i64 1) ((heap_setCell_other w1 ⟨w.heap.size,0,none⟩ (w.heap.size+1) (.pointer none) (by simp)).trans he1)
   have h2:=heap_setCell_same _ (w.heap.size+1) 1 _ _ (Value.int .i64 0) h1
   exact heap_setCell_same _ (w.heap.size+1) 2 _ _ (Value.int .i64 10) h2
  ·exact (((HB1.o.setCell (Nat.le_refl _) _).setCell (by simp) _).setCell (by simp) _).setCell (by simp) _
  rw [HX.o];rfl
 have hcode:jB s=0:=by unfold jB;rw [if_neg hbig]
 rw [hcode] at iG;rw [if_neg hbig] at BS
 go_enter_defers Tryz.func16,Tryz.ntmps16
 obtain⟨OP,hsA,hfA,Pz,PD⟩:=HA.o;clear PD
 go_upto_region 4 with (go_at_call 41;refine iG.o.mono ?_;rintro e w1 ⟨v,rs,rfl,how,hrr,habs,hb1⟩;have HB1:=hid hb1;have qA:=hid how;have zx:=hid hrr;have rM:=hid habs;clear how hrr habs hb1)
 obtain⟨Av,PE,rfl⟩:=aF qA.o;obtain⟨nE,Fh⟩:∃n,(aC s.data.toList).length=n:=⟨_,rfl⟩
 have Sw:nE≤65536:=by rw [←Fh];exact gZ _
 rw [Fh] at BS;have Lf:=hid Fh;clear Fh
 have hwr:IntKind.i64.wrap ((nE:Int)+1)=(nE:Int)+1:=by rw [IntKind.wrap_i64];omega
 go_upto_region 5 with (go_at_call 42;refine (BS.o _ HB1.o).mono ?_;rintro e w2 ⟨v2,rfl,xQ,hb2⟩;obtain⟨A2,cp2,rfl⟩:=aF xQ;have HB2:=hid hb2;clear xQ hb2)
 have MG:Below wA.heap.size wA w2:=HB1.o.trans (HB2.o.mono HB1.o.size);have HB:=hid (OP.trans (MG.mono OP.size));have Fj:Hid (w2.heap[w.heap.size]?=some (.cells #[.pointer none] 57 (0,0))∧w2.heap[w.heap.size+1]?=some (.cells #[.int .i64 0,.int .i64 0,.int .i64 0] 60 (0,0))):=hid ⟨(MG.block _ (block_lt hfA)).trans hfA,(MG.block _ (block_lt Pz)).trans Pz⟩
 have rO:Hid (gB w2 (.slice Av rs.length PE) (rowsOf (aC s.data.toList))):=hid ⟨rs,rM.o,Rd.aN (own_below qA.o HB2.o),fun r hr=>(zx.o r hr).keep HB2.o⟩
 have vC:=hid ((MG.cell (block_lt_of_cell? _ _ HA.o.2.2.2.2)).trans HA.o.2.2.2.2);clear OP hsA hfA Pz MG BS iG qA zx HB1 HB2 BR HA
 go_cut [8] from 13 to 37 (fun p W=>p=.pointer (some ⟨w2.heap.size+4,0,none⟩)∧Hid (bR w2 W (rJ w2.heap.size) (vR w2.heap.size) (Xj (.slice Av rs.length PE)) ((nE:Int)+1) ⟨Yy,rowsOf (aC s.data.toList),[],0⟩ [] (fun _=>0) 0 (fun _=>none) 0))
 case first =>
  have e1:∀W,(Instr.makeMap 114 none).run Tryz.prog W=.ok (.map (some W.heap.size)) (W.alloc (.map #[] 0)):=fun W=>run_makeMap _ W
  have e2:∀W,(Instr.makeMap 117 none).run Tryz.prog W=.ok (.map (some W.heap.size)) (W.alloc (.map #[] 0)):=fun W=>run_makeMap _ W
  have wJ:=hid (bR.start w2 (.slice Av rs.length PE) ((nE:Int)+1) _ rO.o);unfold F8 at wJ
  go_wp2_with fail
  all_goals go_meet
  all_goals exact⟨rfl,wJ⟩
 case rest =>
 obtain⟨rfl,wJ⟩:=hcut
 clear rO hwr
 go_upto_region 6 with fail
 go_cut [] from 38 to 51 (fun W=>Hid (RM w2 W (rJ w2.heap.size) (vR w2.heap.size) ((nE:Int)+1) 0 0 ⟨wK,rowsOf (aC s.data.toList),[],0⟩))
 case first =>
  have HSk:=hid (wJ.o.qJ (F':={ Yy with kind:=1 }) 0 (.int .i64 1) (by rfl) rfl rfl rfl rfl)
  have HSl:=hid (HSk.o.qJ (F':=wK) 8 (.int .i64 3) (by rfl) rfl rfl rfl rfl)
  have Yz:=hid (RM.start s.data.toList (HSl.o.below ah));have c0:wc.cell? ⟨w2.heap.size+4,0,none⟩=some (.pointer (some ⟨w2.heap.size+1,0,none⟩)):=wJ.o.r0;have k0:wc.cell? ⟨w2.heap.size+1,0,none⟩=some (.int .i64 0):=wJ.o.f0;have k8:wc.cell? ⟨w2.heap.size+1,8,none⟩=some (.int .i64 0):=wJ.o.f8;have z0:wc.frozen? ⟨w2.heap.size+1,0,none⟩=false:=wJ.o.fz 0;have z8:wc.frozen? ⟨w2.heap.size+1,8,none⟩=false:=wJ.o.fz 8
  go_wp2_with fail
  go_region
  all_goals go_wp2_with fail
  all_goals go_meet
  all_goals exact Yz
 case rest =>
 have pE:=hcut
 clear wJ hcut
 have JR:Hid (Calls Tryz.prog 44 #[] wc fun e w'=>e=.returned (.map (some wc.heap.size))∧DI w' wc.heap.size 13∧Below wc.heap.size wc w'):=hid (DL wc)
 obtain⟨R,hR⟩:∃R,dS ((nE:Int)+1) (rowsOf (aC s.data.toList)).length ⟨wK,rowsOf (aC s.data.toList),[],0⟩=R:=⟨_,rfl⟩
 have rP:Hid (gY s.data.toList=pz R):=hid (by
  have h1:((aV s.data.toList).length:Int)=nE:=by
   rw [←Lf.o,aC,if_neg (by rw [ak];exact hbig),iq]
  rw [rH _ (by rw [ak];exact hbig),h1,hR])
 have HR:=hid hR;obtain⟨kb,hkb⟩:∃n,wc.heap.size=n:=⟨_,rfl⟩;have YA:=hid hkb;obtain⟨N,hN⟩:∃n,(rowsOf (aC s.data.toList)).length=n:=⟨_,rfl⟩;have CP:=hid hN;rw [hkb] at JR;clear hR hkb hN
 go_wp2_with (go_at_call 44;refine JR.o.mono ?_;rintro e w3 ⟨rfl,hd3,hb3⟩;have HD3:=hid hd3;have HB3:=hid hb3;clear hd3 hb3)
 have om:=hid (pE.o.below (w':=w3) (by rw [YA.o];exact HB3.o))
 have Vk:Hid (Rh w3 (rJ w2.heap.size) kb):=hid (Rh.start HD3.o (by
  obtain⟨_,v,hv⟩:=pE.o
  have h1:=(hv.hl (w2.heap.size+4) (by simp [rJ])).2
  have h2:=YA.o
  omega))
 have lW:Hid (Aq ⟨wK,rowsOf (aC s.data.toList),[],0⟩):=hid (fun n _ hn=>absurd (by unfold dX;split<;>rfl) hn)
 obtain⟨ii,hii⟩:∃i,vR w2.heap.size=i:=⟨_,rfl⟩
 have hrb:w2.heap.size+4=ii.rb:=by rw [←hii];rfl
 obtain⟨EE,Sy⟩:∃e,(nE:Int)+1=e:=⟨_,rfl⟩;rw [hii,Sy] at om;rw [Sy] at HR;rw [hrb];clear YA pE HD3 HB3 hii hrb Sy hcode Lf Sw rM hbig
 go_loopg [10,11,12] N (fun g _ _ _ wr=>∃(S:Sx) (L:List Nat),S.rows.length≤g∧Hid (RM w2 wr L ii EE 0 0 S)∧Hid (Rh wr L kb)∧Hid (Aq S)∧Hid (dS EE g S=R))
 case atStart=>exact⟨_,_,Nat.le_of_eq CP.o,om,Vk,lW,hid (by rw [←CP.o];exact HR.o)⟩
 case round =>
 obtain⟨S,L,hg,pE,HDB,YB,xJ⟩:=hrel
 clear om Vk lW CP HR JR
 rcases hrows:S.rows with _ | ⟨⟨l,row⟩,rest⟩
 ·have bF:Hid (R=.ok S):=hid (by
   rw [←xJ.o]
   rcases gk with _ | g
   ·rfl
   rw [dS,hrows])
  have c1:∃A c,wr.cell? ⟨ii.rb,1,none⟩=some (.slice A 0 c):=by
   obtain⟨_,v,hv⟩:=pE.o
   have hr:=hv.rows;rw [hrows] at hr;obtain⟨rs',ha,⟨-,A,cap,hvv,-,-⟩,-⟩:=hr
   have hn:rs'.length=0:=by simpa [dP] using congrArg List.length ha
   have:=hv.r1
   rw [hvv,hn] at this
   exact⟨A,cap,this⟩
  obtain⟨A1,cp1,c1⟩:=c1;obtain⟨hbd,v,hv⟩:=pE.o;have F9:=hid (MH w2 L ii v EE 0 0 S wr hbd hv);have zy:=hid hbd;have HV:=hid hv;have Fp:ii.fb∈L:=hv.oh;clear hbd hv hrows;unfold MI at F9
  cases hce:l9 S.fl with
  | some line =>
   have HX:Hid (gY s.data.toList=.error (line,118)):=hid (by rw [rP.o,bF.o,pz,hce])
   rw [hce] at F9;clear hce
   go_wp2_with fail
   refine F9.o.mono ?_
   rintro e w9 ⟨bM,rfl⟩
   exact lq Fj.o HB.o (pE.o.BQ bM) HX.o rfl rfl
  | none =>
   have HX:Hid (gY s.data.toList=.ok S.fl):=hid (by rw [rP.o,bF.o,pz,hce])
   rw [hce] at F9;clear hce
   go_wp2_with (go_at_call 47;refine F9.o.mono ?_;rintro e w9 ⟨bM,rfl,ln,YC⟩;have nU:=hid bM;have YD:=hid YC;have q8:=YC.r0;have hbb:=pE.o.BQ bM;have jD:=(hbb.block _ (block_lt Fj.o.1)).trans Fj.o.1;have Ri:=(hbb.block _ (block_lt Fj.o.2)).trans Fj.o.2;have HF9:=hid jD;have HE9:=hid Ri;have HBB:=hid hbb;have q0:w9.cell? ⟨w.heap.size,0,none⟩=some (.pointer none):=by { rw [cell_of_heap jD];rfl };have q1:w9.cell? ⟨w.heap.size+1,0,none⟩=some (.int .i64 0):=by { rw [cell_of_heap Ri];rfl };have q2:w9.cell? ⟨w.heap.size+1,1,none⟩=some (.int .i64 0):=by { rw [cell_of_heap Ri];rfl };have q3:w9.cell? ⟨w.heap.size+1,2,none⟩=some (.int .i64 0):=by { rw [cell_of_heap Ri];rfl };have y0:=frozen_of_heap jD 0;have y1:=frozen_of_heap Ri 0;have y2:=frozen_of_heap Ri 1;have y3:=frozen_of_heap Ri 2;clear jD Ri hbb bM YC)
   have hz1:=heap_setCell_same _ (w.heap.size+1) 0 _ _ (Value.int .i64 0) ((heap_setCell_other w9 ⟨w.heap.size,0,none⟩ (w.heap.size+1) (.pointer (some ⟨ii.fb,0,none⟩)) (by simp)).trans HE9.o)
   have hz2:=heap_setCell_same _ (w.heap.size+1) 1 _ _ (Value.int .i64 0) hz1;have hz3:=heap_setCell_same _ (w.heap.size+1) 2 _ _ (Value.int .i64 0) hz2;have hBs:=HB.o.size
   have hZk:Kept [w.heap.size,w.heap.size+1] w9 ((((w9.setCell ⟨w.heap.size,0,none⟩ (.pointer (some ⟨ii.fb,0,none⟩))).setCell ⟨w.heap.size+1,0,none⟩ (.int .i64 0)).setCell ⟨w.heap.size+1,1,none⟩ (.int .i64 0)).setCell ⟨w.heap.size+1,2,none⟩ (.int .i64 0)) :=
    ((((Kept.refl _ w9).set _ _ _ (.inl (by simp))).set _ _ _ (.inl (by simp))).set _ _ _ (.inl (by simp))).set _ _ _ (.inl (by simp))
   have hFA:=YD.o.MF hZk (by
    have h1:=block_lt Fj.o.2
    intro x hx;simp at hx;omega) (by
    intro b hb j z
    simp at hb
    rcases hb with rfl | rfl
    ·rw [cell_of_heap HF9.o]
     rcases j with _ | j<;>simp
    rw [cell_of_heap HE9.o]
    rcases j with _ | _ | _ | j<;>simp)
   have HFA:=hid hFA;have HZk:=hid hZk
   have YE:w.heap.size≤ii.fb:=by
    obtain⟨_,v',hv'⟩:=pE.o
    exact Nat.le_trans hBs (hv'.hl _ Fp).1
   refine JU w.heap.size (w.heap.size+1) (.pointer (some ⟨ii.fb,0,none⟩)) (.int .i64 0) (.int .i64 0) (.int .i64 0) _ _ _ rfl rfl ?_ hz3 (fun W' hb'=>⟨?_,?_⟩)
   ·rw [heap_setCell_other _ ⟨w.heap.size+1,2,none⟩ w.heap.size _ (by simp),heap_setCell_other _ ⟨w.heap.size+1,1,none⟩ w.heap.size _ (by simp),heap_setCell_other _ ⟨w.heap.size+1,0,none⟩ w.heap.size _ (by simp)]
    exact heap_setCell_same w9 w.heap.size 0 _ _ _ HF9.o
   ·have h1:=HB.o.trans (HBB.o.mono hBs)
    have h2:=h1.trans (HZk.o.below h1.size (by intro x hx;simp at hx;omega))
    exact h2.trans (hb'.mono h2.size)
   rw [HX.o]
   exact⟨ii.fb,rfl,HFA.o.keep hb',zy.o.Vi,YE⟩
 obtain⟨g,rfl⟩:∃g,gk=g+1:=⟨gk - 1,by rw [hrows] at hg;simp at hg;omega⟩
 have hg2:rest.length≤g:=by rw [hrows] at hg;simpa using hg
 have OQ:Hid (R=match iN EE S l row rest with
  | .error e=>.error e
  | .ok S'=>dS EE g S'):=hid (by rw [←xJ.o,dS,hrows];rfl)
 have FD:=hid (Iz w2 L ii EE 0 0 S l row rest wr pE.o hrows)
 have HRW:Hid (∀fv,Rd w2 1 fv row.length (bn row)→b_ w2 fv row):=hid (fun fv h=>mU pE.o.1 hrows h)
 have Vl:row≠[]:=(pE.o.1.row (l,row) (by rw [hrows];simp)).1
 have PG:0 < row.length:=List.length_pos_iff.2 Vl
 have hrl:row.length≤65536:=(pE.o.1.row (l,row) (by rw [hrows];simp)).2.1
 have hs0:(fieldAt row 0).size≤maxLen:=Nat.le_trans (aL (pE.o.1.row (l,row) (by rw [hrows];simp)).2.2.1 0) (by unfold maxLen;omega)
 have c1:∃A c,wr.cell? ⟨ii.rb,1,none⟩=some (.slice A (rest.length+1) c):=by
  obtain⟨_,v,hv⟩:=pE.o
  have hr:=hv.rows;rw [hrows] at hr;obtain⟨g0,o0,cap0,fv0,hv0,-⟩:=rQ hr
  have:=hv.r1
  rw [hv0] at this
  exact⟨_,_,this⟩
 obtain⟨A1,cp1,c1⟩:=c1
 have YF:Hid (∀S',iN EE S l row rest=.ok S'→Aq S'):=hid (fun S' h=>YB.o.step h)
 have YG:Hid (fieldAt row 0∉S.heads→∀j,j < 5→bV (fieldAt row 0)=3+j→dX S.fl j=0):=hid (fun hn j hj hk=>by
  by_cases h:dX S.fl j=0
  ·exact h
  exact absurd (by have:=YB.o j hj h;rw [←hk] at this;rwa [←nA _ (by omega)] at this) hn)
 clear hg Vl hrows xJ YB;obtain⟨S2,hS2⟩:∃S2,({ S with rows:=rest,line:=l }:Sx)=S2:=⟨_,rfl⟩;rw [hS2] at FD;have HS2:=hid hS2;clear hS2
 go_upto_region 11 with (go_at_call 45;refine FD.o.mono ?_;rintro e w4 ⟨fv,rfl,hrd,YH,hg4⟩;have iV:=hid YH;have Xk:=hid hg4;have sP:=hid (HRW.o _ hrd);have Vm:=hid (HDB.o.go hg4);obtain⟨g1,o1,cv1,rfl,abY,Vn⟩:=(HRW.o _ hrd).cells PG;have d0:=Vn 0 PG;rw [Nat.add_zero] at d0;have d0':=(YH.base.cell (block_lt_of_cell? _ _ d0)).trans d0;have HD0:=hid d0;clear hrd YH hg4 Vn d0)
 have hlk:=Vm.o.2.look (fieldAt row 0) hs0 (JV _)
 have hln:S2.line=l:=by rw [←HS2.o]
 have IB:Hid (∀W b c,Below w4.heap.size w4 W→c≠0→Calls Tryz.prog 46 #[.pointer (some ⟨ii.rb,0,none⟩),.bool b,.int .i64 c] W (lX b l c W)):=hid (fun W b c hb hc=>by
  have:=(iV.o.below hb).r2
  rw [hln] at this
  exact aY ii.rb l b c W hc this)
 have Xl:Hid (∀W,Below w4.heap.size w4 W→Below w2.heap.size w2 W):=hid (fun W hb=>(iV.o.below hb).base)
 clear hln
 by_cases rR:bV (fieldAt row 0)=13
 ·have HX:Hid (gY s.data.toList=.error (l,110)):=hid (by rw [rP.o,OQ.o,iN,if_pos rR];rfl)
  rw [if_neg (by omega),decide_eq_false (by omega)] at hlk
  unfold Uu at hlk;clear rR;have hb5:Below w4.heap.size w4 (w4.alloc (.cells #[.int .i64 0,.nilFunc] 126)):=(Below.refl _ _).alloc (Nat.le_refl _) _;have jK:=hid hb5;clear hb5
  go_wp2_with fail
  refine (IB.o _ _ _ jK.o (by decide)).mono ?_
  rintro e w9 ⟨⟨hx,-⟩ | ⟨-,rfl⟩,rfl⟩
  ·exact absurd hx (by simp)
  exact lq Fj.o HB.o (Xl.o _ jK.o) HX.o rfl rfl
 have hkl:bV (fieldAt row 0) < 13:=by have:=qo (fieldAt row 0);omega
 have hkey:=nA _ rR;rw [if_pos hkl,decide_eq_true hkl] at hlk;obtain⟨k,hk⟩:∃k,bV (fieldAt row 0)=k:=⟨_,rfl⟩;have HK:=hid hk;rw [hk] at hlk hkl hkey;have Pq:=hid hkey;unfold Vo at hlk;obtain⟨wd,hwd⟩:∃n:Nat,gL k=n:=⟨_,rfl⟩;have su:=hid hwd;rw [hwd] at hlk;obtain⟨fn,hfn⟩:∃n:Nat,hdF k=n:=⟨_,rfl⟩;have HFn:=hid hfn;rw [hfn] at hlk;clear hk hkey hwd hfn
 have hwd2:wd=2∧k < 11∨wd=4∧11≤k:=by rw [←su.o];exact Au k
 have HW2:=hid hwd2
 have abZ:wd≤4:=by omega
 clear hwd2
 go_cut [11,12] from 62 to 69 (fun p q W=>∃hb:Nat,p=.pointer (some ⟨hb,0,none⟩)∧q=.bool true∧Hid (Below w4.heap.size w4 W)∧W.cell? ⟨hb,0,none⟩=some (.int .i64 (wd:Int))∧W.cell? ⟨hb,1,none⟩=some (.func (.func fn) #[] #[]))
 case first =>
  have jK:Hid (Below w4.heap.size w4 (w4.alloc (.cells #[.int .i64 (wd:Int),.func (.func fn) #[] #[]] 126))):=hid ((Below.refl _ _).alloc (Nat.le_refl _) _)
  have HHh:Hid ((w4.alloc (.cells #[.int .i64 (wd:Int),.func (.func fn) #[] #[]] 126)).heap[w4.heap.size]?=some (.cells #[.int .i64 (wd:Int),.func (.func fn) #[] #[]] 126 (0,0))):=hid (heap_alloc_new w4 _)
  go_wp2_with fail
  all_goals go_meet
  all_goals exact⟨_,rfl,rfl,jK,by rw [cell_of_heap HHh.o];rfl,by rw [cell_of_heap HHh.o];rfl⟩
 case rest =>
 obtain⟨hb,rfl,rfl,jK,hh0,Ga⟩:=hcut
 have sW:=hid (iV.o.below jK.o);have YI:=hid (Vm.o.go (aZ.of_below jK.o));have FY:=hid (Xk.o.trans (aZ.of_below jK.o));have d5:=(jK.o.cell (block_lt_of_cell? _ _ d0')).trans d0';clear hlk d0'
 by_cases Lg:row.length=wd
 ·have Sz:((row.length:Int)==(wd:Int))=true:=by rw [Lg,beq_self_eq_true]
  have SA:=hid Lg
  have Uv:Hid (∀c,c≠0→Calls Tryz.prog 46 #[.pointer (some ⟨ii.rb,0,none⟩),.bool true,.int .i64 c] wc fun e w'=>e=.returned (.tuple #[])∧wc=w'):=hid (fun c hc=>(IB.o wc true c jK.o hc).mono (by
   rintro e w' ⟨⟨-,rfl⟩ | ⟨hx,-⟩,rfl⟩
   ·exact⟨rfl,rfl⟩
   cases hx))
  have c4:=sW.o.1.heads;obtain⟨MJ,v5,OT⟩:=sW.o;have r4:=OT.r4
  have JW:=fun x=>(OT.below (cK (w:=wc) x)).seen.look (fieldAt row 0) hs0
  obtain⟨q,hq⟩:∃q,S2.heads.count (fieldAt row 0)=q:=⟨_,rfl⟩;have HQ:=hid hq;rw [hq] at JW
  have LA:Hid (S2.heads=S.heads):=hid (by rw [←HS2.o])
  clear OT MJ hq Lg
  go_upto_region 14 with (go_at_call 46;refine (Uv.o _ (by decide)).mono ?_;rintro e w9 ⟨rfl,rfl⟩)
  by_cases Fq:wd=2∧q≠0
  ·have HX:Hid (gY s.data.toList=.error (l,112)):=hid (by
    have hc:S.heads.contains (fieldAt row 0)=true:=by
     rw [List.contains_iff_mem]
     apply Classical.byContradiction
     intro hn
     exact Fq.2 (by rw [←HQ.o,LA.o];exact List.count_eq_zero.2 hn)
    rw [rP.o,OQ.o,iN,if_neg rR,HK.o,su.o,if_neg (by rw [SA.o];simp),if_pos ⟨Fq.1,hc⟩];rfl)
   obtain⟨rfl,hq0⟩:=Fq
   have hqe:((q:Int)==0)=false:=by rw [beq_eq_false_iff_ne];omega
   have hl1:(Instr.lookup 117 (.map (some ii.sb)) (.string (fieldAt row 0)) false).run Tryz.prog wc.drew=.ok (.int .i64 (q:Int)) wc.drew:=JW 1
   have iW:Hid (∀W,Below wc.heap.size wc W→W.cell? ⟨ii.rb,4,none⟩=some (.map (some ii.sb))∧W.cell? ⟨g1,o1,none⟩=some (.string (fieldAt row 0))∧W.cell? ⟨hb,0,none⟩=some (.int .i64 2)):=hid (fun W hW=>⟨(hW.cell (block_lt_of_cell? _ _ r4)).trans r4,(hW.cell (block_lt_of_cell? _ _ d5)).trans d5,(hW.cell (block_lt_of_cell? _ _ hh0)).trans hh0⟩)
   clear JW hq0 rR
   refine Code.wp_mono (aT.imp (bb:=w.heap.size) (eb:=w.heap.size+1) (K:=fun ch W=>ch=[F5 l 112]∧Below wc.heap.size wc W) ?_) ?_
   ·rintro ch tmps W h2 h3 ⟨rfl,hk⟩
    exact lq Fj.o HB.o (Xl.o _ (jK.o.trans (hk.mono jK.o.size))) HX.o h2 h3
   refine wp_region_held_drew (S:=fun W'=>W'.cell? ⟨ii.rb,4,none⟩=some (.map (some ii.sb))∧W'.cell? ⟨g1,o1,none⟩=some (.string (fieldAt row 0))∧W'.cell? ⟨hb,0,none⟩=some (.int .i64 2)) (by kernel_rfl) ?_ (fun hHeld=>?_)
   ·exact iW.o _ ah
   refine aA 0 (some 80) hHeld ?_ (hQ:=fun _ _ _ h=>aT.put (by decide) h);try simp only [aj]
   refine aA 1 (some 81) hHeld ?_ (hQ:=fun _ _ _ h=>aT.put (by decide) h);try simp only [aj]
   refine aA 2 (some 82) hHeld ?_ (hQ:=fun _ _ _ h=>aT.put (by decide) h);try simp only [aj]
   refine aA 3 (some 83) hHeld ?_ (hQ:=fun _ _ _ h=>aT.put (by decide) h);try simp only [aj]
   refine aA 4 (some 84) hHeld ?_ (hQ:=fun _ _ _ h=>aT.put (by decide) h);try simp only [aj]
   refine aA 5 (some 85) hHeld ?_ (hQ:=fun _ _ _ h=>aT.put (by decide) h);try simp only [aj]
   refine aA 6 (some 86) hHeld ?_ (hQ:=fun _ _ _ h=>aT.put (by decide) h);try simp only [aj]
   refine aA 7 (some 87) hHeld ?_ (hQ:=fun _ _ _ h=>aT.put (by decide) h);try simp only [aj]
   refine aA 8 (some 88) hHeld ?_ (hQ:=fun _ _ _ h=>aT.put (by decide) h);try simp only [aj]
   refine aA 9 (some 89) hHeld ?_ (hQ:=fun _ _ _ h=>aT.put (by decide) h);try simp only [aj]
   refine aA 10 (some 90) hHeld ?_ (hQ:=fun _ _ _ h=>aT.put (by decide) h);try simp only [aj]
   refine aA 11 (some 91) hHeld ?_ (hQ:=fun _ _ _ h=>aT.put (by decide) h);try simp only [aj]
   refine aP 12 (fun K hK=>?_)
   go_simp
   refine hK.out _ _ ?_ (fun hHeld=>?_)
   ·first | exact iW.o _ ah
   clear hK K
   refine aA 13 (some 93) hHeld ?_ (hQ:=fun _ _ _ h=>aT.put (by decide) h);try simp only [aj]
   refine aA 14 (some 94) hHeld ?_ (hQ:=fun _ _ _ h=>aT.put (by decide) h);try simp only [aj]
   refine aP 15 (fun K hK=>?_)
   go_simp
   refine (IB.o _ false 112 (jK.o.trans (ah.mono jK.o.size)) (by decide)).mono ?_
   rintro e w9 ⟨⟨hx,-⟩ | ⟨-,rfl⟩,rfl⟩
   ·exact absurd hx (by simp)
   exact⟨rfl,rfl,rfl,rfl,ah⟩
  go_cut [] from 80 to 95 (fun W=>Hid (Below wc.heap.size wc W))
  case first =>
   have iW:Hid (∀W,Below wc.heap.size wc W→W.cell? ⟨ii.rb,4,none⟩=some (.map (some ii.sb))∧W.cell? ⟨g1,o1,none⟩=some (.string (fieldAt row 0))∧W.cell? ⟨hb,0,none⟩=some (.int .i64 (wd:Int))):=hid (fun W hW=>⟨(hW.cell (block_lt_of_cell? _ _ r4)).trans r4,(hW.cell (block_lt_of_cell? _ _ d5)).trans d5,(hW.cell (block_lt_of_cell? _ _ hh0)).trans hh0⟩)
   have hl1:(Instr.lookup 117 (.map (some ii.sb)) (.string (fieldAt row 0)) false).run Tryz.prog wc.drew=.ok (.int .i64 (q:Int)) wc.drew:=JW 1;clear JW
   rcases HW2.o with ⟨h2,-⟩ | ⟨h4,-⟩
   ·obtain rfl:q=0:=by
     apply Classical.byContradiction
     intro h;exact Fq ⟨h2,h⟩
    subst h2
    clear Fq
    refine Code.wp_mono (aT.imp (bb:=w.heap.size) (eb:=w.heap.size+1) (K:=fun _ _=>False) (fun _ _ _ _ _ h=>h.elim)) ?_
    refine wp_region_held_drew (S:=fun W'=>W'.cell? ⟨ii.rb,4,none⟩=some (.map (some ii.sb))∧W'.cell? ⟨g1,o1,none⟩=some (.string (fieldAt row 0))∧W'.cell? ⟨hb,0,none⟩=some (.int .i64 2)) (by kernel_rfl) ?_ (fun hHeld=>?_)
    ·exact iW.o _ ah
    refine aA 0 (some 80) hHeld ?_ (hQ:=fun _ _ _ h=>aT.put (by decide) h);try simp only [aj]
    refine aA 1 (some 81) hHeld ?_ (hQ:=fun _ _ _ h=>aT.put (by decide) h);try simp only [aj]
    refine aA 2 (some 82) hHeld ?_ (hQ:=fun _ _ _ h=>aT.put (by decide) h);try simp only [aj]
    refine aA 3 (some 83) hHeld ?_ (hQ:=fun _ _ _ h=>aT.put (by decide) h);try simp only [aj]
    refine aA 4 (some 84) hHeld ?_ (hQ:=fun _ _ _ h=>aT.put (by decide) h);try simp only [aj]
    refine aA 5 (some 85) hHeld ?_ (hQ:=fun _ _ _ h=>aT.put (by decide) h);try simp only [aj]
    refine aA 6 (some 86) hHeld ?_ (hQ:=fun _ _ _ h=>aT.put (by decide) h);try simp only [aj]
    refine aA 7 (some 87) hHeld ?_ (hQ:=fun _ _ _ h=>aT.put (by decide) h);try simp only [aj]
    refine aA 8 (some 88) hHeld ?_ (hQ:=fun _ _ _ h=>aT.put (by decide) h);try simp only [aj]
    refine aA 9 (some 89) hHeld ?_ (hQ:=fun _ _ _ h=>aT.put (by decide) h);try simp only [aj]
    refine aA 10 (some 90) hHeld ?_ (hQ:=fun _ _ _ h=>aT.put (by decide) h);try simp only [aj]
    refine aA 11 (some 91) hHeld ?_ (hQ:=fun _ _ _ h=>aT.put (by decide) h);try simp only [aj]
    refine aP 12 (fun K hK=>?_)
    go_simp
    refine hK.out _ _ ?_ (fun hHeld=>?_)
    ·first | exact iW.o _ ah
    clear hK K
    refine aA 13 (some 93) hHeld ?_ (hQ:=fun _ _ _ h=>aT.put (by decide) h);try simp only [aj]
    refine aA 14 (some 94) hHeld ?_ (hQ:=fun _ _ _ h=>aT.put (by decide) h);try simp only [aj]
    refine aP 15 (fun K hK=>?_)
    go_simp
    refine (IB.o _ true 112 (jK.o.trans (ah.mono jK.o.size)) (by decide)).mono ?_
    rintro e w9 ⟨⟨-,rfl⟩ | ⟨hx,-⟩,rfl⟩
    rotate_left
    ·cases hx
    refine hK.out _ _ ?_ (fun hHeld=>?_)
    ·exact iW.o _ ah
    clear hK K
    refine wpAnyH_done (by kernel_rfl) ?_ _
    simp only [aT]
    go_wp2_with fail
    go_meet
    exact hid ah
   subst h4
   clear Fq
   refine Code.wp_mono (aT.imp (bb:=w.heap.size) (eb:=w.heap.size+1) (K:=fun _ _=>False) (fun _ _ _ _ _ h=>h.elim)) ?_
   refine wp_region_held_drew (S:=fun W'=>W'.cell? ⟨ii.rb,4,none⟩=some (.map (some ii.sb))∧W'.cell? ⟨g1,o1,none⟩=some (.string (fieldAt row 0))∧W'.cell? ⟨hb,0,none⟩=some (.int .i64 4)) (by kernel_rfl) ?_ (fun hHeld=>?_)
   ·exact iW.o _ ah
   refine aA 0 (some 80) hHeld ?_ (hQ:=fun _ _ _ h=>aT.put (by decide) h);try simp only [aj]
   refine aA 1 (some 81) hHeld ?_ (hQ:=fun _ _ _ h=>aT.put (by decide) h);try simp only [aj]
   refine aA 2 (some 82) hHeld ?_ (hQ:=fun _ _ _ h=>aT.put (by decide) h);try simp only [aj]
   refine aA 3 (some 83) hHeld ?_ (hQ:=fun _ _ _ h=>aT.put (by decide) h);try simp only [aj]
   refine aA 4 (some 84) hHeld ?_ (hQ:=fun _ _ _ h=>aT.put (by decide) h);try simp only [aj]
   refine PI 5 (some 85) hHeld ?_ (hQ:=fun _ _ _ h=>aT.put (by decide) h);try simp only [aj]
   refine PI 6 (some 86) hHeld ?_ (hQ:=fun _ _ _ h=>aT.put (by decide) h);try simp only [aj]
   refine PI 7 (some 87) hHeld ?_ (hQ:=fun _ _ _ h=>aT.put (by decide) h);try simp only [aj]
   refine PI 8 (some 88) hHeld ?_ (hQ:=fun _ _ _ h=>aT.put (by decide) h);try simp only [aj]
   refine PI 9 (some 89) hHeld ?_ (hQ:=fun _ _ _ h=>aT.put (by decide) h);try simp only [aj]
   refine PI 10 (some 90) hHeld ?_ (hQ:=fun _ _ _ h=>aT.put (by decide) h);try simp only [aj]
   refine PI 11 (some 91) hHeld ?_ (hQ:=fun _ _ _ h=>aT.put (by decide) h);try simp only [aj]
   refine PI 12 (some 92) hHeld ?_ (hQ:=fun _ _ _ h=>aT.put (by decide) h);try simp only [aj]
   refine PI 13 (some 93) hHeld ?_ (hQ:=fun _ _ _ h=>aT.put (by decide) h);try simp only [aj]
   refine aA 14 (some 94) hHeld ?_ (hQ:=fun _ _ _ h=>aT.put (by decide) h);try simp only [aj]
   refine aP 15 (fun K hK=>?_)
   go_simp
   refine (IB.o _ true 112 (jK.o.trans (ah.mono jK.o.size)) (by decide)).mono ?_
   rintro e w9 ⟨⟨-,rfl⟩ | ⟨hx,-⟩,rfl⟩
   rotate_left
   ·cases hx
   refine hK.out _ _ ?_ (fun hHeld=>?_)
   ·exact iW.o _ ah
   clear hK K
   refine wpAnyH_done (by kernel_rfl) ?_ _
   simp only [aT]
   go_wp2_with fail
   go_meet
   exact hid ah
  case rest =>
  have OO:=hcut
  clear hcut JW;have HM6:=hid (sW.o.below OO.o);have YJ:=hid (YI.o.go (aZ.of_below OO.o));have hh6:=(OO.o.cell (block_lt_of_cell? _ _ Ga)).trans Ga
  have Vp:Hid (Calls Tryz.prog fn #[.pointer (some ⟨ii.rb,0,none⟩),.slice (some ⟨g1,o1,none⟩) row.length cv1] wc (pF w2 L ii EE (0+1) 0 (iy EE S2 row k) wc)):=hid (by
   rw [←HFn.o]
   refine PK w2 L ii EE (0+1) 0 S2 _ row m0 k wc HM6.o sP.o vC.o hkl Pq.o (by rw [SA.o,su.o]) (fun j hj hj5=>?_)
   have h2:wd=2:=by
    rcases HW2.o with ⟨h2,-⟩ | ⟨-,h4⟩
    ·exact h2
    omega
   have hq0:q=0:=Classical.byContradiction (fun h=>Fq ⟨h2,h⟩)
   have hn:fieldAt row 0∉S.heads:=by
    rw [←LA.o]
    exact List.count_eq_zero.1 (by rw [HQ.o,hq0])
   have:=YG.o hn j hj5 (by rw [HK.o,hj])
   rw [←HS2.o];exact this)
  have SB:Hid (iN EE S l row rest=match iy EE S2 row k with
   | .error e=>.error e
   | .ok S'=>.ok { S' with heads:=S'.heads++[fieldAt row 0] }):=hid (by
   have hnt:¬(gL k=2∧S.heads.contains (fieldAt row 0)=true):=by
    rintro⟨h2,hc⟩
    rw [su.o] at h2
    refine Fq ⟨h2,fun h=>?_⟩
    rw [List.contains_iff_mem,←LA.o] at hc
    exact List.count_eq_zero.1 (by rw [HQ.o,h]) hc
   rw [iN,if_neg rR,HK.o,if_neg (by rw [SA.o,su.o];simp),if_neg hnt,HS2.o]
   rcases iy EE S2 row k with e | S'<;>rfl)
  have hen:∀args W,(callFunc fn args).run Tryz.prog W=.ok (.enter fn args) W:=fun args W=>by rw [←HFn.o];exact MK k hkl args W
  clear rR Fq r4 d5 hh0 Ga;unfold pF at Vp
  cases Rj:iy EE S2 row k with
  | error p =>
   obtain⟨pl,pc⟩:=p
   have HX:Hid (gY s.data.toList=.error (pl,pc)):=hid (by rw [rP.o,OQ.o,SB.o,Rj];rfl)
   rw [Rj] at Vp;clear Rj
   go_wp2_with fail
   refine Vp.o.mono ?_
   rintro e w9 ⟨L9,bM,rfl⟩
   exact lq Fj.o HB.o (HM6.o.BQ bM) HX.o rfl rfl
  | ok S3 =>
   have HR3:Hid (R=dS EE g { S3 with heads:=S3.heads++[fieldAt row 0] }):=hid (by rw [OQ.o,SB.o,Rj])
   have YK:=hid (YF.o { S3 with heads:=S3.heads++[fieldAt row 0] } (by rw [SB.o,Rj]))
   have hrw:=Aw Rj
   have hr2:S2.rows.length=rest.length:=by rw [←HS2.o]
   rw [hr2] at hrw;rw [Rj] at Vp;clear Rj
   go_upto_region 16 with (refine Vp.o.mono ?_;rintro e w7 ⟨L7,hg7,rfl,OU⟩;have Xm:=hid hg7;have kC:=hid OU;clear hg7 OU)
   obtain⟨SC,v7,OU⟩:=kC.o;have r4:=OU.r4;have d7:=(OU.base.cell (block_lt_of_cell? _ _ HD0.o)).trans HD0.o;have hh7:=SC.heads;obtain⟨q3,hq3⟩:∃q,S3.heads.count (fieldAt row 0)=q:=⟨_,rfl⟩
   have ab0:q3≤S3.heads.length:=by rw [←hq3];exact List.count_le_length
   have YL:=(OU.below (ah (w:=w7))).seen.look (fieldAt row 0) hs0;rw [hq3] at YL
   obtain⟨w8,hst,hcn,hkp⟩:=(OU.below (ah (w:=w7))).seen.store (fieldAt row 0) hs0 ((q3:Int)+1) (by omega) (by omega)
   have Vq:mW w8 ii.sb ({ S3 with heads:=S3.heads++[fieldAt row 0] }:Sx).heads.length (fun t=>((({ S3 with heads:=S3.heads++[fieldAt row 0] }:Sx).heads.count t:Nat):Int)):=by
    have e1:(fun t=>if t=fieldAt row 0 then (q3:Int)+1 else ((S3.heads.count t:Nat):Int))=fun t=>(((S3.heads++[fieldAt row 0]).count t:Nat):Int):=by
     funext t
     rw [List.count_append]
     by_cases ht:t=fieldAt row 0
     ·subst ht
      rw [if_pos rfl,hq3,List.count_singleton_self];omega
     rw [if_neg ht,(List.count_eq_zero (l:=[fieldAt row 0]) (a:=t)).2 (by rw [List.mem_singleton];exact ht)];omega
    show mW w8 ii.sb (S3.heads++[fieldAt row 0]).length _
    rw [List.length_append];rw [e1] at hcn
    exact hcn
   have OV:Hid (RM w2 w8 L7 ii EE 0 0 { S3 with heads:=S3.heads++[fieldAt row 0] }):=hid ⟨Bd.pushHead SC _ (by
    have:=sP.o.each (fieldAt row 0) (by
     unfold fieldAt
     rw [List.getD,List.getElem?_eq_getElem PG]
     exact List.getElem_mem PG)
    exact this),v7,(OU.below ah).PL hkp Vq rfl rfl rfl⟩
   have Xn:=hid (show aZ L7 w7 L7 w8 from (aZ.of_below ah).trans ⟨hkp.mono (by intro x hx;simp at hx;subst hx;exact OU.Gb),fun x hx=>.inl hx⟩)
   have YM:=hid ((YJ.o.go Xm.o).go Xn.o)
   have ab1:IntKind.i64.wrap ((q3:Int)+1)=(q3:Int)+1:=by rw [IntKind.wrap_i64];omega
   have hrw2:({ S3 with heads:=S3.heads++[fieldAt row 0] }:Sx).rows.length≤g:=by show S3.rows.length≤g;omega
   have PN:=hid hrw2;clear OU SC hkp hcn Vq hq3 hrw2
   go_wp2_with fail
   go_region
   all_goals go_wp2_with fail
   all_goals go_roundg g
   case measure=>omega
   case rel=>exact⟨{ S3 with heads:=S3.heads++[fieldAt row 0] },L7,PN.o,OV,YM,YK,hid HR3.o.symm⟩
 have HX:Hid (gY s.data.toList=.error (l,111)):=hid (by rw [rP.o,OQ.o,iN,if_neg rR,HK.o,su.o,if_pos Lg];rfl)
 have Sz:((row.length:Int)==(wd:Int))=false:=by rw [beq_eq_false_iff_ne];omega
 clear Lg rR
 go_upto_region 13 with (go_at_call 46;refine (IB.o _ true 110 jK.o (by decide)).mono ?_;rintro e w9 ⟨⟨-,rfl⟩ | ⟨hx,-⟩,rfl⟩)
 go_wp2_with fail
 refine (IB.o _ _ _ jK.o (by decide)).mono ?_
 rintro e w9 ⟨⟨hx,-⟩ | ⟨-,rfl⟩,rfl⟩
 ·exact absurd hx (by simp)
 exact lq Fj.o HB.o (Xl.o _ jK.o) HX.o rfl rfl
theorem BU:∀(rs:List (Rl×Value)) (k:Nat) (hk:k < rs.length),(jH rs)[k*8]?=some (.int .i64 rs[k].1.kind)∧(jH rs)[k*8+1]?=some (.int .i64 rs[k].1.flag)∧(jH rs)[k*8+2]?=some (.bool rs[k].1.cross)∧(jH rs)[k*8+3]?=some (.string rs[k].1.strip)∧(jH rs)[k*8+4]?=some (.string rs[k].1.add)∧(jH rs)[k*8+5]?=some (.string rs[k].1.cond)∧(jH rs)[k*8+6]?=some rs[k].2∧(jH rs)[k*8+7]?=some (.int .i64 rs[k].1.line)
 | [],_,hk=>absurd hk (Nat.not_lt_zero _)
 | c::r,0,_=>⟨rfl,rfl,rfl,rfl,rfl,rfl,rfl,rfl⟩
 | c::r,k+1,hk=>by
   have:=BU r k (by simpa using hk)
   have e:jH (c::r)=[.int .i64 c.1.kind,.int .i64 c.1.flag,.bool c.1.cross,.string c.1.strip,.string c.1.add,.string c.1.cond,c.2,.int .i64 c.1.line]++jH r:=by simp [jH]
   have key:∀j,(jH (c::r))[(k+1)*8+j]?=(jH r)[k*8+j]?:=fun j=>by
    rw [e,List.getElem?_append_right (by simp;omega)]
    congr 1
    simp;omega
   exact⟨(key 0).trans this.1,(key 1).trans this.2.1,(key 2).trans this.2.2.1,(key 3).trans this.2.2.2.1,(key 4).trans this.2.2.2.2.1,(key 5).trans this.2.2.2.2.2.1,(key 6).trans this.2.2.2.2.2.2.1,(key 7).trans this.2.2.2.2.2.2.2⟩
def fB (w:World) (rf:Nat) (F:Fl):Prop:=∃v:Qs,w.heap[rf]?=some (.cells (mM v F) 48 (0,0))∧Rd w 2 v.au F.au.length (bB F.au) ∧
 (∃us:List Value,Rd w 1 v.aI F.aI.length us∧us.length=F.aI.length∧∀(k:Nat) u b,us[k]?=some u→F.aI[k]?=some b→IS w u b)∧Rd w 5 v.cls F.cls.length (iT F.cls) ∧
 ∃rs:List (Rl×Value),rs.map (·.1)=F.rls∧Rd w 8 v.rls rs.length (jH rs)∧∀r∈rs,IS w r.2 r.1.next
theorem fB.keep {w w':World} {rf:Nat} {F:Fl} (h:fB w rf F) (hb:Below w.heap.size w w'):fB w' rf F:=by
 obtain⟨v,h1,h2,⟨us,h3,h4,h5⟩,h6,rs,h7,h8,h9⟩:=h
 exact⟨v,(hb.block _ (block_lt h1)).trans h1,h2.keep hb,⟨us,h3.keep hb,h4,fun k u b hu hb'=>(h5 k u b hu hb').keep hb⟩,h6.keep hb,rs,h7,h8.keep hb,fun r hr=>(h9 r hr).keep hb⟩
theorem QM.fileAt {w0 w:World} {L:List Nat} {rr rf a:Nat} {v:Qs} {E:Int} {all:List Row} {S:Sx} (h:QM w0 w L rr rf v E all a S):fB w rf S.fl:=by
 obtain⟨us,h1,h2,h3⟩:=h.aI
 obtain⟨rs,h4,h5,h6⟩:=h.rls
 exact⟨v,h.file,Rd.aN h.au.1,⟨us,Rd.aN h1.1,h2,fun k u a hu ha=>(h3 k u a hu ha).is⟩,Rd.aN h.cls.1,rs,h4,Rd.aN h5.1,fun r hr=>(h6 r hr).is⟩
def JX (l:List UInt8) (w:World) (e:Ending) (w':World):Prop:=Below w.heap.size w w'∧match gY l with
 | .error p=>e=.returned (.tuple #[.pointer none,.int .i64 p.1,.int .i64 p.2])
 | .ok F=>∃rf,e=.returned (.tuple #[.pointer (some ⟨rf,0,none⟩),.int .i64 0,.int .i64 0])∧fB w' rf F∧iU F∧w.heap.size≤rf
theorem JX.bad {l:List UInt8} {w w':World} {line c:Int} (ha:gY l=.error (line,c)) (hb:Below w.heap.size w w'):JX l w (.returned (.tuple #[.pointer none,.int .i64 line,.int .i64 c])) w':=⟨hb,by rw [ha]⟩
theorem JX.good {l:List UInt8} {w w':World} {F:Fl} {rf:Nat} (ha:gY l=.ok F) (hb:Below w.heap.size w w') (hf:fB w' rf F) (hk:iU F) (hr:w.heap.size≤rf):JX l w (.returned (.tuple #[.pointer (some ⟨rf,0,none⟩),.int .i64 0,.int .i64 0])) w':=⟨hb,by rw [ha];exact⟨rf,rfl,hf,hk,hr⟩⟩
def qs0 (rv:Value):Qs:=⟨rv,.slice none 0 0,.slice none 0 0,.slice none 0 0,.slice none 0 0,.slice none 0 0⟩
theorem QM.start (w:World) (rv:Value) (E:Int) (rows:List Row) (hr:gB w rv rows):QM w ((w.alloc (.cells #[.int .i64 1,.string ⟨#[]⟩,.string ⟨#[]⟩,.int .i64 0,.int .i64 0,.int .i64 0,.int .i64 0,.int .i64 0,.int .i64 3,.slice none 0 0,.slice none 0 0,.slice none 0 0,.slice none 0 0] 48)).alloc (.cells #[.pointer (some ⟨w.heap.size,0,none⟩),rv,.int .i64 0,.int .i64 E,.slice none 0 0,.int .i64 0] 186))
  [w.heap.size,w.heap.size+1] (w.heap.size+1) w.heap.size (qs0 rv) E rows 0 ⟨wK,rows,[],0⟩:=by
 obtain⟨w1,hw1⟩:∃W,w.alloc (.cells #[.int .i64 1,.string ⟨#[]⟩,.string ⟨#[]⟩,.int .i64 0,.int .i64 0,.int .i64 0,.int .i64 0,.int .i64 0,.int .i64 3,.slice none 0 0,.slice none 0 0,.slice none 0 0,.slice none 0 0] 48)=W:=⟨_,rfl⟩
 have s1:w1.heap.size=w.heap.size+1:=by rw [←hw1];simp
 have b1:Below w.heap.size w w1:=by rw [←hw1];exact (Below.refl _ _).alloc (Nat.le_refl _) _
 have f1:w1.heap[w.heap.size]?=some (.cells #[.int .i64 1,.string ⟨#[]⟩,.string ⟨#[]⟩,.int .i64 0,.int .i64 0,.int .i64 0,.int .i64 0,.int .i64 0,.int .i64 3,.slice none 0 0,.slice none 0 0,.slice none 0 0,.slice none 0 0] 48 (0,0)):=by rw [←hw1];exact heap_alloc_new w _
 rw [hw1];obtain⟨w2,hw2⟩:∃W,w1.alloc (.cells #[.pointer (some ⟨w.heap.size,0,none⟩),rv,.int .i64 0,.int .i64 E,.slice none 0 0,.int .i64 0] 186)=W:=⟨_,rfl⟩
 have s2:w2.heap.size=w.heap.size+1+1:=by rw [←hw2];simp [s1]
 have b2:Below w1.heap.size w1 w2:=by rw [←hw2];exact (Below.refl _ _).alloc (Nat.le_refl _) _
 have f2:w2.heap[w.heap.size+1]?=some (.cells #[.pointer (some ⟨w.heap.size,0,none⟩),rv,.int .i64 0,.int .i64 E,.slice none 0 0,.int .i64 0] 186 (0,0)):=by rw [←hw2,←s1];exact heap_alloc_new w1 _
 rw [hw2]
 refine⟨b1.trans (b2.mono (by omega)),?_,by simp,by simp,f2,(b2.block _ (by omega)).trans f1,hr,eX.fP _ _ _ _,eX.fP _ _ _ _,⟨[],eX.fP _ _ _ _,rfl,fun k u a hu=>by simp at hu⟩,eX.fP _ _ _ _,⟨[],rfl,eX.fP _ _ _ _,fun r hr=>by cases hr⟩⟩
 intro x hx;simp at hx;omega
theorem SE {s:ByteArray} (h:bV s=13):O9 s=0:=by unfold O9;rw [if_pos h]
theorem PO {s:ByteArray} {k:Nat} (h:bV s=k) (hk:k < 13):O9 s=(gL k:Nat):=by unfold O9;rw [if_neg (by omega),h]
theorem JY (s:ByteArray) (w:World):Calls Tryz.prog 71 #[.string s] w (JX s.data.toList w):=by
 obtain⟨i0,hi,hz0,hz1,hz2⟩:=info_parts jU
 have iG:=hid (wY s w)
 by_cases hbig:65536 < s.size
 ·have HX:Hid (gY s.data.toList=.error (0,10)):=hid (by rw [gY,if_pos (by rw [ak];exact hbig)])
  unfold jB at iG;rw [if_pos hbig] at iG
  go_enter Tryz.func71,Tryz.ntmps71
  go_wp2_with (go_at_call 97;refine iG.o.mono ?_;rintro e w1 ⟨v,rs,rfl,how,hrr,habs⟩;have HB1:=hid how.below;clear how hrr habs)
  go_ret3
  exact .bad HX.o HB1.o
 have hcode:jB s=0:=by unfold jB;rw [if_neg hbig]
 rw [hcode] at iG
 have HL:Hid (∀W,Calls Tryz.prog 98 #[.string s] W fun e w'=>∃v,e=.returned v∧Own W w' 9 1 v (aV s.data.toList).length (bn ((aV s.data.toList).map mkS))):=hid (fun W=>oV s W (by omega))
 obtain⟨nE,Fh⟩:∃n,(aV s.data.toList).length=n:=⟨_,rfl⟩
 have Sw:nE≤65536:=by
  have:=gZ s.data.toList
  rw [aC,if_neg (by rw [ak];exact hbig),iq,Fh] at this
  exact this
 rw [Fh] at HL;obtain⟨R,hR⟩:∃R,dS ((nE:Int)+1) (rowsOf (aC s.data.toList)).length ⟨wK,rowsOf (aC s.data.toList),[],0⟩=R:=⟨_,rfl⟩
 have rP:Hid (gY s.data.toList=pz R):=hid (by
  rw [rH _ (by rw [ak];exact hbig),Fh,hR])
 have SF:=hid (Bd.start s.data.toList);have HR:=hid hR
 have hwr:IntKind.i64.wrap ((nE:Int)+1)=(nE:Int)+1:=by rw [IntKind.wrap_i64];omega
 clear hR Fh hcode hbig
 go_enter Tryz.func71,Tryz.ntmps71
 go_upto_region 4 with (go_at_call 97;refine iG.o.mono ?_;rintro e w1 ⟨v,rs,rfl,how,hrr,habs⟩;have qA:=hid how;have zx:=hid hrr;have rM:=hid habs;clear how hrr habs)
 obtain⟨Av,PE,rfl⟩:=aF qA.o.own
 go_upto_region 5 with (go_at_call 98;refine (HL.o _).mono ?_;rintro e w2 ⟨v2,rfl,xQ⟩;obtain⟨A2,cp2,rfl⟩:=aF xQ.own;have HB2:=hid xQ.below;clear xQ)
 have HB:Hid (Below w.heap.size w w2):=hid (qA.o.below.trans (HB2.o.mono qA.o.below.size));obtain⟨all,hall⟩:∃l,rowsOf (aC s.data.toList)=l:=⟨_,rfl⟩
 have rO:Hid (gB w2 (.slice Av rs.length PE) all):=hid ⟨rs,by rw [rM.o,hall],Rd.aN (own_below qA.o.own HB2.o),fun r hr=>(zx.o r hr).keep HB2.o⟩
 have hrl:rs.length=all.length:=by have h:=congrArg List.length rM.o;rw [hall] at h;simpa [dP] using h
 rw [hall] at HR SF;rw [hrl] at rO ⊢;obtain⟨N,hN⟩:∃n,all.length=n:=⟨_,rfl⟩
 have hN2:N≤65536:=by rw [←hN,←hall];exact wL _
 rw [hN] at HR rO ⊢;have CP:=hid hN;clear hall hrl hN qA zx rM HB2 HL iG
 go_cut [8] from 28 to 35 (fun p W=>p=.pointer (some ⟨w2.heap.size+1,0,none⟩)∧Hid (QM w2 W [w2.heap.size,w2.heap.size+1] (w2.heap.size+1) w2.heap.size (qs0 (.slice Av N PE)) ((nE:Int)+1) all 0 ⟨wK,all,[],0⟩))
 case first =>
  have wJ:=hid (QM.start w2 (.slice Av N PE) ((nE:Int)+1) all rO.o)
  go_wp2_with fail
  all_goals go_meet
  all_goals exact⟨rfl,wJ⟩
 case rest =>
 obtain⟨rfl,wJ⟩:=hcut
 obtain⟨rr,hrr⟩:∃n,w2.heap.size+1=n:=⟨_,rfl⟩;obtain⟨rf,hrf⟩:∃n,w2.heap.size=n:=⟨_,rfl⟩
 have Di:Hid (w.heap.size≤rf):=hid (by rw [←hrf];exact HB.o.size)
 obtain⟨EE,Sy⟩:∃e,(nE:Int)+1=e:=⟨_,rfl⟩;rw [hrr,hrf,Sy] at wJ;rw [Sy] at HR;rw [hrr]
 have Vr:Hid (RQ w2 wc [rf,rr] rr rf EE all 0 0 ⟨wK,all,[],0⟩):=hid ⟨SF.o,_,0,⟨by simp,rfl⟩,wJ.o⟩
 clear wJ hrr hrf Sy hwr SF
 go_wp2_with fail
 go_loopg [6,9,10,11] N (fun g _ _ _ _ wr=>∃(S:Sx) (L:List Nat),S.rows.length≤g∧Hid (RQ w2 wr L rr rf EE all 0 0 S)∧Hid (dS EE g S=R))
 case atStart=>exact⟨_,_,Nat.le_of_eq CP.o,Vr,HR⟩
 case round =>
 obtain⟨S,L,hg,Vd,xJ⟩:=hrel
 clear Vr HR;obtain⟨hbd,v,a,hpa,hqm⟩:=Vd.o;have c2:=hqm.r2
 rcases hrows:S.rows with _ | ⟨⟨l,row⟩,rest⟩
 ·have bF:Hid (R=.ok S):=hid (by
   rw [←xJ.o]
   rcases gk with _ | g
   ·rfl
   rw [dS,hrows])
  have haN:a=N:=by have:=hpa.1;rw [hrows] at this;rw [CP.o] at this;simpa using this
  subst haN
  obtain⟨wo,rfl⟩:∃wo:World,wo=wr:=⟨_,rfl⟩;have c0:=hqm.r0;have hn:∃n,S.fl.rls.length=n:=⟨_,rfl⟩;obtain⟨n,hn⟩:=hn;obtain⟨rs,pG,qO,xR⟩:=hqm.rls
  have hlr:rs.length=n:=by rw [←hn,←pG];simp
  have hn2:n≤65536:=by have:=hbd.rls;omega
  obtain⟨AR,Mg,Dy⟩:=aF qO.1;rw [hlr] at Dy
  have c12:wo.cell? ⟨rf,12,none⟩=some (.slice AR n Mg):=by rw [hqm.fc 12,←Dy];rfl
  have t_:=hid (Rd.aN qO.1);have ML:=hid pG
  have HIs:Hid (∀r∈rs,IS wo r.2 r.1.next):=hid (fun r hr=>(xR r hr).is)
  have xL:=hid hlr;have HV:=hid Dy;have Xo:=hid hn;have HM:=hid hqm;have zy:=hid hbd;have ab5:=block_lt hqm.file
  have Mi:S.fl.cls.length≤65536:=by have h1:=hbd.cls;omega
  clear hrows hbd hpa hqm pG qO xR hlr Dy hn hg
  go_wp2_with fail
  go_loopw [13,14,15,16,17] (fun x _ _ _ _ wz=>∃m:Nat,m≤n∧x=.int .i64 m∧Hid (Below wo.heap.size wo wz)∧Hid (xS S.fl m)) (fun x _ _ _ _ _=>n - (intOf x).toNat)
  case atStart=>exact⟨0,Nat.zero_le _,rfl,hid (Below.refl _ _),hid (fun j _ hj=>absurd hj (Nat.not_lt_zero _))⟩
  case round =>
  obtain⟨m,hm,rfl,uI,jr⟩:=hrel
  have e12:=(uI.o.cell (block_lt_of_cell? _ _ c12)).trans c12
  by_cases hlt:m < n
  ·have hlt2:m < S.fl.rls.length:=by have:=Xo.o;omega
   have hmr:m < rs.length:=by have:=xL.o;omega
   have hr1:rs[m].1=S.fl.rls[m]:=by
    have h:rs.map (·.1)=S.fl.rls:=ML.o
    simp [←h]
   obtain⟨-,A,cap,PS,hcap,hcells⟩:=t_.o;rw [HV.o,xL.o] at PS
   cases PS
   obtain⟨g,o,rfl,hc2⟩:=hcells.resolve_left (by have:=xL.o;omega)
   obtain⟨q0,q1,q2,q3,q4,q5,q6,q7⟩:=BU rs m hmr;have d6:=hc2 _ _ q6;have d7:=hc2 _ _ q7;rw [←Nat.add_assoc] at d6 d7;have Jp:=HIs.o _ (List.getElem_mem hmr);obtain⟨nv,PU⟩:∃u,rs[m].2=u:=⟨_,rfl⟩;rw [hr1] at d7 Jp;rw [PU] at d6 Jp;obtain⟨r,hr⟩:∃r,S.fl.rls[m]=r:=⟨_,rfl⟩;have Iq:Hid (S.fl.rls[m]=r):=hid hr;rw [hr] at d7 Jp;obtain⟨pn,cn,rfl,hcn,hnx⟩:=Jp;have OW:=hid hnx
   have YN:Hid (∀W,Below wo.heap.size wo W→W.cell? ⟨rf,12,none⟩=some (.slice (some ⟨g,o,none⟩) n Mg)∧W.cell? ⟨g,o+m*8+6,none⟩=some (.slice pn r.next.length cn)∧W.cell? ⟨g,o+m*8+7,none⟩=some (.int .i64 r.line)):=hid (fun W hW=>⟨(hW.cell (block_lt_of_cell? _ _ c12)).trans c12,(hW.cell (block_lt_of_cell? _ _ d6)).trans d6,(hW.cell (block_lt_of_cell? _ _ d7)).trans d7⟩)
   have hnb:canon r.next=r.next∧∀x∈r.next,0≤x∧x≤65535:=by rw [←Iq.o];exact zy.o.nexts _ (List.getElem_mem hlt2)
   have YO:=hid hnb.2;have hnl:=fZ hnb.1 hnb.2;clear q0 q1 q2 q3 q4 q5 q6 q7 hc2 hcells PU hr1 hmr hr hnx hnb d6 d7 hcap
   go_wp2_with fail
   go_loopw [14,15,16,17] (fun x _ _ _ wy=>∃q:Nat,q≤r.next.length∧x=.int .i64 q∧Hid (Below wo.heap.size wo wy)∧Hid ((r.next.take q).all (j4 S.fl)=true)) (fun x _ _ _ _=>r.next.length - (intOf x).toNat)
   case atStart=>exact⟨0,Nat.zero_le _,rfl,uI,hid rfl⟩
   case round =>
   obtain⟨q,hq,rfl,sS,FD⟩:=hrel
   clear e12;obtain⟨e12,d6,d7⟩:=YN.o _ sS.o
   by_cases hlt3:q < r.next.length
   ·obtain⟨x,hx⟩:∃x,r.next[q]=x:=⟨_,rfl⟩
    have hxb:=YO.o _ (List.getElem_mem hlt3);rw [hx] at hxb
    obtain⟨bb,off,rfl,hcs2⟩:=OW.o.resolve_left (by omega)
    have e5:=hcs2 q hlt3
    have hgx:r.next.getD q 0=x:=by rw [←hx];simp [List.getD,hlt3]
    rw [hgx] at e5;have d5:=(sS.o.cell (block_lt_of_cell? _ _ e5)).trans e5;have hMy:=HM.o.below sS.o;have hcl:=xu rf S.fl.cls x wr hMy.Pb Mi;have hgo:=IC S.fl x _ _ rfl rfl;unfold Ik Ij at hcl
    obtain⟨d,hd⟩:∃d,(S.fl.cls.find? (fun c=>c.flag==x)).getD xq=d:=⟨_,rfl⟩
    obtain⟨is,his⟩:∃b,(S.fl.cls.find? (fun c=>c.flag==x)).isSome=b:=⟨_,rfl⟩
    rw [hd,his] at hcl hgo;have oF:=hid hcl
    have MN:Hid (∀b,j4 S.fl x=b→(r.next.take (q+1)).all (j4 S.fl)=b):=hid (fun b hb=>by
     rw [List.take_succ_eq_append_getElem hlt3,List.all_append,FD.o,hx];simp [hb])
    have mX:Hid (j4 S.fl x=false→gY s.data.toList=.error (r.line,118)):=hid (fun hb=>by
     have hck:l9 S.fl=some r.line:=by
      rw [←Iq.o]
      refine jr.o.bad hlt2 ?_
      rw [Iq.o];rw [Bool.eq_false_iff]
      intro h
      rw [List.all_eq_true] at h
      have:=h x (by rw [←hx];exact List.getElem_mem hlt3)
      rw [hb] at this;cases this
     rw [rP.o,bF.o,pz,hck])
    clear hcl e5 hcs2 hd his hx hgx hMy
    by_cases hs0:x=S.fl.s0
    ·have hb0:(x==S.fl.s0)=true:=by rw [beq_iff_eq];exact hs0
     have hb1:(x != S.fl.s0)=false:=by simp [hs0]
     have Gc:=hid (MN.o true (by rw [hgo,hb0];rfl))
     clear hgo hs0 mX
     go_wp2_with (go_at_call 102;refine oF.o.mono ?_;rintro e9 w6 ⟨rfl,hb6⟩;have uJ:=hb6.alloc hb6.size (.cells #[.int .i64 d.flag,.int .i64 d.kind,.bool d.cross,.int .i64 d.first,.int .i64 d.count] 192);have sj:=hid (sS.o.trans (uJ.mono sS.o.size));have s7:((w6.alloc (.cells #[.int .i64 d.flag,.int .i64 d.kind,.bool d.cross,.int .i64 d.first,.int .i64 d.count] 192)).cell? ⟨rf,3,none⟩)=some (.int .i64 S.fl.s0):=(HM.o.below sj.o).fc 3;clear hb6 uJ)
     go_roundw
     case rel=>exact⟨q+1,by omega,by go_num,sj,Gc⟩
     case measure=>simp [intOf];omega
    have hb0:(x==S.fl.s0)=false:=by rw [beq_eq_false_iff_ne];exact hs0
    have hb1:(x != S.fl.s0)=true:=by simp [hs0]
    rw [hb0,Bool.false_or] at hgo;clear hs0
    cases is
    ·have HE:=hid (mX.o hgo)
     clear hgo mX MN
     go_wp2_with (go_at_call 102;refine oF.o.mono ?_;rintro e9 w6 ⟨rfl,hb6⟩;have uJ:=hb6.alloc hb6.size (.cells #[.int .i64 d.flag,.int .i64 d.kind,.bool d.cross,.int .i64 d.first,.int .i64 d.count] 192);have sj:=hid (sS.o.trans (uJ.mono sS.o.size));have s7:((w6.alloc (.cells #[.int .i64 d.flag,.int .i64 d.kind,.bool d.cross,.int .i64 d.first,.int .i64 d.count] 192)).cell? ⟨rf,3,none⟩)=some (.int .i64 S.fl.s0):=(HM.o.below sj.o).fc 3;clear hb6 uJ)
     obtain⟨f12,f6,f7⟩:=YN.o _ sj.o
     go_quiet (fail)
     go_wp2_with fail
     go_ret3
     exact .bad HE.o (below_drewN (HB.o.trans ((HM.o.below sj.o).base.mono HB.o.size)) _)
    rw [Bool.true_and] at hgo
    by_cases hk2:d.kind=2
    ·have ek:(d.kind==2)=true:=by rw [hk2];rfl
     have ek2:(d.kind != 2)=false:=by rw [hk2];rfl
     have Gc:=hid (MN.o true (by rw [hgo,ek]))
     clear hgo mX MN hk2
     go_wp2_with (go_at_call 102;refine oF.o.mono ?_;rintro e9 w6 ⟨rfl,hb6⟩;have uJ:=hb6.alloc hb6.size (.cells #[.int .i64 d.flag,.int .i64 d.kind,.bool d.cross,.int .i64 d.first,.int .i64 d.count] 192);have sj:=hid (sS.o.trans (uJ.mono sS.o.size));have s7:((w6.alloc (.cells #[.int .i64 d.flag,.int .i64 d.kind,.bool d.cross,.int .i64 d.first,.int .i64 d.count] 192)).cell? ⟨rf,3,none⟩)=some (.int .i64 S.fl.s0):=(HM.o.below sj.o).fc 3;clear hb6 uJ)
     go_roundw
     case rel=>exact⟨q+1,by omega,by go_num,sj,Gc⟩
     case measure=>simp [intOf];omega
    have ek:(d.kind==2)=false:=by rw [beq_eq_false_iff_ne];exact hk2
    have ek2:(d.kind != 2)=true:=by simp [hk2]
    have HE:=hid (mX.o (by rw [hgo,ek]))
    clear hgo mX MN hk2
    go_wp2_with (go_at_call 102;refine oF.o.mono ?_;rintro e9 w6 ⟨rfl,hb6⟩;have uJ:=hb6.alloc hb6.size (.cells #[.int .i64 d.flag,.int .i64 d.kind,.bool d.cross,.int .i64 d.first,.int .i64 d.count] 192);have sj:=hid (sS.o.trans (uJ.mono sS.o.size));have s7:((w6.alloc (.cells #[.int .i64 d.flag,.int .i64 d.kind,.bool d.cross,.int .i64 d.first,.int .i64 d.count] 192)).cell? ⟨rf,3,none⟩)=some (.int .i64 S.fl.s0):=(HM.o.below sj.o).fc 3;clear hb6 uJ)
    obtain⟨f12,f6,f7⟩:=YN.o _ sj.o
    go_quiet (fail)
    go_wp2_with fail
    go_ret3
    exact .bad HE.o (below_drewN (HB.o.trans ((HM.o.below sj.o).base.mono HB.o.size)) _)
   obtain rfl:q=r.next.length:=by omega
   have HA:Hid (r.next.all (j4 S.fl)=true):=hid (by have:=FD.o;rwa [List.take_of_length_le (Nat.le_refl _)] at this)
   go_wp2_with fail
   go_roundw
   case rel=>exact⟨m+1,by omega,by go_num,sS,hid (jr.o.step hlt2 (by rw [Iq.o];exact HA.o))⟩
   case measure=>simp [intOf];omega
  obtain rfl:m=n:=by omega
  have HE:=hid (xS.none_ (by rw [Xo.o];exact jr.o))
  go_wp2_with fail
  go_ret3
  refine .good (by rw [rP.o,bF.o,pz,HE.o]) (HB.o.trans ((HM.o.below uI.o).base.mono HB.o.size)) (HM.o.below uI.o).fileAt zy.o.Vi Di.o
 obtain⟨g,rfl⟩:∃g,gk=g+1:=⟨gk - 1,by rw [hrows] at hg;simp at hg;omega⟩
 have hg2:rest.length≤g:=by rw [hrows] at hg;simpa using hg
 have OQ:Hid (R=match iN EE S l row rest with
  | .error e=>.error e
  | .ok S'=>dS EE g S'):=hid (by rw [←xJ.o,dS,hrows];rfl)
 obtain⟨gr,OM,cr,fv,Po,halt,hcr,e0,e1,hrd⟩:=Iu rO.o (hpa.at_ hrows);rw [CP.o] at Po halt hcr
 cases Po
 have Aj:=hid (mU hbd hrows hrd)
 have hne:row≠[]:=(hbd.row (l,row) (by rw [hrows];simp)).1
 have hpos:0 < row.length:=List.length_pos_iff.2 hne;have Yp:row.length≤65536:=Aj.o.len;have FD:=hid (hbd.take hrows);have Yq:=hid (hpa.next (l:=l) hrows);have HM:=hid hqm;obtain⟨fg,fo,fc,rfl,hfc,xK⟩:=Aj.o.cells hpos;have d0:=(hqm.base.cell (block_lt_of_cell? w2 _ e0)).trans e0;have d1:=(hqm.base.cell (block_lt_of_cell? w2 _ e1)).trans e1
 have ha0:(0:Int)≤(a:Int):=by omega
 have hai:(a:Int) < (N:Int):=by omega
 have Un:IntKind.i64.wrap ((a:Int)+1)=((a+1:Nat):Int):=by rw [IntKind.wrap_i64];omega
 have z5:=hqm.rz 5;have c5:=hqm.r5;have Uo:=hid xK;clear hrows hbd hpa hqm hrd hne xK e0 e1 hg
 go_upto_region 9 with fail
 have Mf:=hid (HM.o.lU l)
 have Uq:Hid (aZ L wr L (wr.setCell ⟨rr,5,none⟩ (.int .i64 l))):=hid ⟨bC HM.o.CK,fun _ h=>.inl h⟩
 generalize wr.setCell ⟨rr,5,none⟩ (.int .i64 l)=wy at Mf Uq ⊢
 clear c2 c5 z5 d0 d1;have c2:=Mf.o.r2;have z2:=Mf.o.rz 2;have uH:Hid (QM w2 (wy.setCell ⟨rr,2,none⟩ (.int .i64 ((a:Int)+1))) L rr rf v EE all (a+1) { S with line:=l,rows:=rest }):=hid (Mf.o.setAt (a+1) rest)
 go_upto_region 10 with fail
 generalize wy.setCell ⟨rr,2,none⟩ (.int .i64 ((a:Int)+1))=wz at uH ⊢
 clear c2 z2 Mf Uq Un ha0 hai
 have Pe:Hid (∀W,Below wz.heap.size wz W→W.cell? ⟨fg,fo,none⟩=some (.string (fieldAt row 0))):=hid (fun W hb=>by
  have:=aD (Uo.o 0 hpos) (uH.o.below hb).base
  rwa [Nat.add_zero] at this)
 have f0:=Pe.o wz (Below.refl _ _)
 have Rk:Hid (∀W,Below w2.heap.size w2 W→W.cell? ⟨fg,fo,none⟩=some (.string (fieldAt row 0))):=hid (fun W hb=>by
  have:=aD (Uo.o 0 hpos) hb
  rwa [Nat.add_zero] at this)
 have oo:Hid (∀W,Below wz.heap.size wz W→Below w.heap.size w W∧W.cell? ⟨rr,5,none⟩=some (.int .i64 l)):=hid (fun W hb=>⟨HB.o.trans ((uH.o.below hb).base.mono HB.o.size),(uH.o.below hb).r5⟩)
 have c5:=(oo.o wz (Below.refl _ _)).2;have su:=hid (Jl (fieldAt row 0) wz)
 by_cases rR:bV (fieldAt row 0)=13
 ·have HX:Hid (gY s.data.toList=.error (l,110)):=hid (by rw [rP.o,OQ.o,iN,if_pos rR];rfl)
  rw [SE rR] at su;clear rR
  go_wp2_with (go_at_call 99;refine su.o.mono ?_;rintro e9 w9 ⟨rfl,rfl⟩)
  go_quiet (fail)
  go_wp2_with fail
  go_ret3
  exact .bad HX.o (oo.o _ (below_drewN (Below.refl _ _) _)).1
 obtain⟨k,hk⟩:∃k,bV (fieldAt row 0)=k:=⟨_,rfl⟩
 have hkl:k < 13:=by have:=qo (fieldAt row 0);omega
 rw [PO hk hkl] at su;have HK:=hid hk;obtain⟨wd,hwd⟩:∃n:Nat,gL k=n:=⟨_,rfl⟩;have HW:=hid hwd
 have SG:wd=2∨wd=4:=by rcases Au k with h | h<;>omega
 rw [hwd] at su;have MO:=hid rR;clear hk hwd rR
 by_cases Lg:row.length=wd
 ·have SA:=hid Lg
  have YP:((row.length:Int)==(wd:Int))=true:=by rw [Lg,beq_self_eq_true]
  have Sz:((row.length:Int) != (wd:Int))=false:=by rw [Lg];simp
  have c4:=uH.o.r4
  have Q_:S.heads.length≤65536:=by have:=Vd.o.1.heads;omega
  have wJ:Hid (Calls Tryz.prog 100 #[.pointer (some ⟨rr,0,none⟩),.string (fieldAt row 0)] wz fun e w'=>e=.returned (.bool (S.heads.contains (fieldAt row 0)))∧wz=w'):=hid (zR rr v.heads S.heads (fieldAt row 0) wz c4 (Rd.aN uH.o.heads.1) Q_)
  obtain⟨b,hb⟩:∃b,S.heads.contains (fieldAt row 0)=b:=⟨_,rfl⟩;rw [hb] at wJ;have Ud:=hid hb;clear Lg c4 Q_ hb
  by_cases Fq:wd=2∧b=true
  ·have HX:Hid (gY s.data.toList=.error (l,112)):=hid (by
    rw [rP.o,OQ.o,iN,if_neg MO.out,HK.o,HW.o,if_neg (by rw [SA.o];simp),if_pos ⟨Fq.1,by rw [Ud.o];exact Fq.2⟩];rfl)
   obtain⟨rfl,rfl⟩:=Fq
   go_wp2_with (first | (go_at_call 99;refine su.o.mono ?_;rintro e9 w9 ⟨rfl,rfl⟩) | (go_at_call 100;refine wJ.o.mono ?_;rintro e8 w8 ⟨rfl,rfl⟩))
   go_quiet (fail)
   go_wp2_with fail
   go_ret3
   exact .bad HX.o (oo.o _ (below_drewN (Below.refl _ _) _)).1
  have Jm:Hid (R=match iy EE { S with rows:=rest,line:=l } row k with
   | .error e=>.error e
   | .ok S'=>dS EE g { S' with heads:=S'.heads++[fieldAt row 0] }):=hid (by
   rw [OQ.o,iN,if_neg MO.out,HK.o,HW.o,if_neg (by rw [SA.o];simp),if_neg (by rw [Ud.o];exact Fq)]
   cases iy EE { S with rows:=rest,line:=l } row k<;>rfl)
  have JR:Hid (Calls Tryz.prog 101 #[.pointer (some ⟨rr,0,none⟩),.slice (some ⟨fg,fo,none⟩) row.length fc] wz (gH w2 L rr rf EE all 1 0 (iy EE { S with rows:=rest,line:=l } row k) wz)):=hid (DF w2 L rr rf EE all 1 0 { S with rows:=rest,line:=l } _ row wz ⟨FD.o,v,a+1,Yq.o,uH.o⟩ Aj.o k HK.o hkl (by rw [SA.o,HW.o]) (by rw [CP.o];exact hN2))
  have Vt:wd=2∧b=false∨wd=4:=by
   rcases SG with h | h
   ·exact .inl ⟨h,by cases b;rfl;exact absurd ⟨h,rfl⟩ Fq⟩
   exact .inr h
  clear Fq SG
  go_upto_region 11 with (go_at_call 99;refine su.o.mono ?_;rintro e9 w9 ⟨rfl,rfl⟩)
  have YQ:((wd:Int)==0)=false:=by rw [beq_eq_false_iff_ne];omega
  go_upto_region 16 with (go_at_call 100;refine wJ.o.mono ?_;rintro e8 w8 ⟨rfl,rfl⟩)
  go_cut [97] from 93 to 97 (fun p W=>p=.bool false∧W=wz)
  case first =>
   rcases Vt with ⟨rfl,rfl⟩ | rfl
   all_goals go_wp2_with fail
   all_goals go_meet
   all_goals exact⟨rfl,rfl⟩
  case rest =>
  obtain⟨rfl,hwz⟩:=hcut
  rw [hwz];clear hwz wc;obtain⟨H,hH⟩:∃H,iy EE { S with rows:=rest,line:=l } row k=H:=⟨_,rfl⟩;have HHe:=hid hH;rw [hH] at JR Jm;clear hH Vt
  cases H with
  | error p =>
   obtain⟨l',c⟩:=p
   have HX:Hid (gY s.data.toList=.error (l',c)):=hid (by rw [rP.o,Jm.o];rfl)
   unfold gH at JR;clear Jm HHe
   go_upto_region 20 with (go_at_call 101;refine JR.o.mono ?_;rintro e5 w5 ⟨L5,hg5,hc0,rfl,hl5⟩;have jK:Hid (Below w.heap.size w w5):=hid (HB.o.trans ((uH.o.base.trans (hg5.1.below uH.o.base.size (fun x hx=>(uH.o.hl x hx).1))).mono HB.o.size));have hc1:(c != 0)=true:=by { simpa using hc0 };clear hg5 hc0)
   go_quiet (fail)
   go_wp2_with fail
   go_ret3
   exact .bad HX.o (below_drewN jK.o _)
  | ok S3 =>
   have sP:Hid (S3.rows.length≤g):=hid (Nat.le_trans (Aw HHe.o) hg2)
   unfold gH at JR
   go_upto_region 21 with (go_at_call 101;refine JR.o.mono ?_;rintro e5 w5 ⟨L5,hg5,rfl,Rf⟩;have Ur:=hid Rf;clear hg5 Rf)
   obtain⟨MJ,v5,a5,Vu,OT⟩:=Ur.o;have Vv:=hid MJ;have Vw:=hid Vu;have sW:=hid OT;obtain⟨A4,PV,hv4⟩:=aF OT.heads.1;have Vx:=hid hv4;obtain⟨nh,Xp⟩:∃n,S3.heads.length=n:=⟨_,rfl⟩
   have ab7:nh≤65536:=by rw [←Xp];have:=MJ.heads;omega
   have Vy:=hid Xp
   have c4:w5.cell? ⟨rr,4,none⟩=some (.slice A4 nh PV):=by rw [OT.r4,hv4,Xp]
   have ab8:=block_lt_of_cell? _ _ c4;have f5:=aD (Uo.o 0 hpos) OT.base;rw [Nat.add_zero] at f5;have uK:=block_lt_of_cell? _ _ f5;have z4:=OT.rz 4
   have Sq:Hid (∀W,Below w5.heap.size w5 W→W.cell? ⟨rr,4,none⟩=some (.slice A4 nh PV)∧W.ownsRow 0 9 1 (.slice A4 nh PV) nh (bn S3.heads)):=hid (fun W hW=>⟨by rw [(sW.o.below hW).r4,Vx.o,Vy.o],by
    have:=(sW.o.below hW).heads.1
    rw [Vx.o,Vy.o] at this;exact this⟩)
   have Lc:Hid (∀W,Below w5.heap.size w5 W→∀W9 g9 gG,W9.ownsRow 0 9 1 (.slice (some ⟨g9,0,none⟩) (nh+1) gG) (nh+1) (bn S3.heads++[.string (fieldAt row 0)])→W.grownBy W9 (Value.slice A4 nh PV).ownBlock→n_ W W9 (.slice A4 nh PV) (.slice (some ⟨g9,0,none⟩) (nh+1) gG) →
     ∃L',QM w2 (W9.setCell ⟨rr,4,none⟩ (.slice (some ⟨g9,0,none⟩) (nh+1) gG)) L' rr rf { v5 with heads:=.slice (some ⟨g9,0,none⟩) (nh+1) gG } EE all a5 { S3 with heads:=S3.heads++[fieldAt row 0] }):=hid (fun W hW W9 g9 gG hown hg hloc=>by
    rw [←Vy.o] at hown hg hloc ⊢
    rw [←Vx.o] at hg hloc;obtain⟨L',hG,hM⟩:=(sW.o.below hW).FE (fieldAt row 0) hg hloc hown
    exact⟨L',hM⟩)
   have BN:Hid (∀W,Below w5.heap.size w5 W→∀W9,W.grownBy W9 (Value.slice A4 nh PV).ownBlock→W9.cell? ⟨rr,4,none⟩=some (.slice A4 nh PV)∧W9.frozen? ⟨rr,4,none⟩=false∧W9.cell? ⟨fg,fo,none⟩=some (.string (fieldAt row 0))):=hid (fun W hW W9 hg=>by
    rw [←Vy.o,←Vx.o] at hg
    have hf:=(sW.o.below hW).dx hg (sW.o.below hW).jV (by decide)
    refine⟨by rw [cell_of_heap hf,←Vy.o,←Vx.o];rfl,frozen_of_heap hf 4,?_⟩
    have hbs:=(sW.o.below hW).kX hg (sW.o.below hW).heads.2
    have:=aD (Uo.o 0 hpos) hbs
    rwa [Nat.add_zero] at this)
   have Vz:Hid ((fieldAt row 0).size≤65536):=hid (aL Aj.o.each 0);clear MJ Vu OT hv4 Xp f0 c5 Ur
   refine wp_region_held_drew (S:=fun W=>W.cell? ⟨fg,fo,none⟩=some (.string (fieldAt row 0))) (by kernel_rfl) ?_ (fun hHeld=>?_)
   ·exact (ah.cell uK).trans f5
   refine aA 0 (some 112) hHeld ?_;try simp only [aj]
   refine aA 1 (some 113) hHeld ?_;try simp only [aj]
   refine aA 2 (some 114) hHeld ?_;try simp only [aj]
   refine aA 3 (some 115) hHeld ?_;try simp only [aj]
   refine aA 5 (some 117) hHeld ?_;try simp only [aj]
   refine aA 6 (some 118) hHeld ?_;try simp only [aj]
   refine aA 7 (some 119) hHeld ?_;try simp only [aj]
   refine wpAnyH_ready (rs:=[4,8]) (by kernel_rfl) (by simp) ?_
   refine AllReadyH.cons rfl (fun K hK=>?_) ?_
   ·go_simp
    refine hK.out _ _ ?_ (fun hHeld=>?_)
    ·first | exact (ah.cell uK).trans f5 | exact ((ah.alloc (Nat.le_refl _) _).cell uK).trans f5 | exact R9 | exact Rk.o _ dZ.o.base
    clear hK K
    refine aP 8 (fun K hK=>?_)
    go_simp
    refine hK.out _ _ ?_ (fun hHeld=>?_)
    ·first | exact (ah.cell uK).trans f5 | exact ((ah.alloc (Nat.le_refl _) _).cell uK).trans f5 | exact R9 | exact Rk.o _ dZ.o.base
    clear hK K
    refine aP 9 (fun K hK=>?_)
    refine aW (w:=w5.drew) (by rfl) _ _ 110 (by rfl) 0 9 i0 _ 1 16 Tryz.underlying110 hi hz0 hz1 hz2 rfl (by decide) (.slice A4 nh PV) nh (bn S3.heads) (by rfl) (Sq.o _ ah).2 #[.string (fieldAt row 0)] (by rfl) (by intro x hx;simp at hx;rcases hx with rfl;rfl) (by rfl) (by unfold maxLen;omega) (by omega) (Nat.zero_le _) ?_
    intro gg cc w9 hown bM hloc
    obtain⟨L9,kK⟩:=Lc.o _ ah _ _ _ hown bM hloc;have dZ:=hid kK;obtain⟨nI,z9,R9⟩:=BN.o _ ah _ bM;clear hown bM hloc kK
    refine hK.out _ _ ?_ (fun hHeld=>?_)
    ·exact R9
    clear hK K
    refine aA 10 (some 122) hHeld ?_;try simp only [aj]
    refine aA 11 (some 123) hHeld ?_;try simp only [aj]
    refine aP 12 (fun K hK=>?_)
    go_simp
    refine hK.out _ _ ?_ (fun hHeld=>?_)
    ·first | exact (ah.cell uK).trans f5 | exact ((ah.alloc (Nat.le_refl _) _).cell uK).trans f5 | exact R9 | exact Rk.o _ dZ.o.base
    clear hK K
    refine wpAnyH_done (by kernel_rfl) ?_ _
    go_wp2_with fail
    go_roundg g
    case measure=>omega
    case rel=>exact⟨{ S3 with heads:=S3.heads++[fieldAt row 0] },L9,sP.o,hid ⟨Vv.o.pushHead (fieldAt row 0) Vz.o,_,a5,Vw.o,dZ.o⟩,hid Jm.o.symm⟩
   refine AllReadyH.cons rfl (fun K hK=>?_) ?_
   ·go_simp
    refine hK.out _ _ ?_ (fun hHeld=>?_)
    ·first | exact (ah.cell uK).trans f5 | exact ((ah.alloc (Nat.le_refl _) _).cell uK).trans f5 | exact R9 | exact Rk.o _ dZ.o.base
    clear hK K
    refine aP 4 (fun K hK=>?_)
    go_simp
    refine hK.out _ _ ?_ (fun hHeld=>?_)
    ·first | exact (ah.cell uK).trans f5 | exact ((ah.alloc (Nat.le_refl _) _).cell uK).trans f5 | exact R9 | exact Rk.o _ dZ.o.base
    clear hK K
    refine aP 9 (fun K hK=>?_)
    refine aW (w:=w5.drew) (by rfl) _ _ 110 (by rfl) 0 9 i0 _ 1 16 Tryz.underlying110 hi hz0 hz1 hz2 rfl (by decide) (.slice A4 nh PV) nh (bn S3.heads) (by rfl) (Sq.o _ ah).2 #[.string (fieldAt row 0)] (by rfl) (by intro x hx;simp at hx;rcases hx with rfl;rfl) (by rfl) (by unfold maxLen;omega) (by omega) (Nat.zero_le _) ?_
    intro gg cc w9 hown bM hloc
    obtain⟨L9,kK⟩:=Lc.o _ ah _ _ _ hown bM hloc;have dZ:=hid kK;obtain⟨nI,z9,R9⟩:=BN.o _ ah _ bM;clear hown bM hloc kK
    refine hK.out _ _ ?_ (fun hHeld=>?_)
    ·exact R9
    clear hK K
    refine aA 10 (some 122) hHeld ?_;try simp only [aj]
    refine aA 11 (some 123) hHeld ?_;try simp only [aj]
    refine aP 12 (fun K hK=>?_)
    go_simp
    refine hK.out _ _ ?_ (fun hHeld=>?_)
    ·first | exact (ah.cell uK).trans f5 | exact ((ah.alloc (Nat.le_refl _) _).cell uK).trans f5 | exact R9 | exact Rk.o _ dZ.o.base
    clear hK K
    refine wpAnyH_done (by kernel_rfl) ?_ _
    go_wp2_with fail
    go_roundg g
    case measure=>omega
    case rel=>exact⟨{ S3 with heads:=S3.heads++[fieldAt row 0] },L9,sP.o,hid ⟨Vv.o.pushHead (fieldAt row 0) Vz.o,_,a5,Vw.o,dZ.o⟩,hid Jm.o.symm⟩
   exact AllReadyH.nil
 have HX:Hid (gY s.data.toList=.error (l,111)):=hid (by rw [rP.o,OQ.o,iN,if_neg MO.out,HK.o,HW.o,if_pos Lg];rfl)
 have YP:((row.length:Int)==(wd:Int))=false:=by rw [beq_eq_false_iff_ne];omega
 have Sz:((row.length:Int) != (wd:Int))=true:=by simp;omega
 have YQ:((wd:Int)==0)=false:=by rw [beq_eq_false_iff_ne];omega
 clear Lg SG
 go_wp2_with (go_at_call 99;refine su.o.mono ?_;rintro e9 w9 ⟨rfl,rfl⟩)
 go_quiet (fail)
 go_wp2_with fail
 go_ret3
 exact .bad HX.o (oo.o _ (below_drewN (Below.refl _ _) _)).1
abbrev En:=ByteArray×List Int
def nJ (F:Fl) (w:List UInt8) (rest:ByteArray):Except Int En :=
 if (aQ F rest).2≠0 then .error (aQ F rest).2 else if (aQ F rest).1.all (aM F)=true then .ok (mkS w,(aQ F rest).1) else .error 120
def gy (F:Fl) (w rest:List UInt8) (cut:Bool):Except Int En :=
 if w=[]∨fitAll (mkS w)=false then .error 21 else if 64 < w.length then .error 22 else if cut=false then .ok (mkS w,[]) else nJ F w (mkS rest)
def jy (F:Fl) (row:List ByteArray):Except Int En :=
 if row.length≠1 then .error 111 else match eB (fieldAt row 0).data.toList with
  | (w,rest,cut,e)=>if e≠0 then .error e else gy F w rest cut
def vS (F:Fl) (count:Int):Nat→List Row→Except (Int×Int) (List En)
 | _,[]=>.ok []
 | i,(l,row)::rest=>if (i:Int)=count then .error (l,116) else match jy F row with
   | .error c=>.error (l,c)
   | .ok x=>match vS F count (i+1) rest with
     | .error p=>.error p
     | .ok xs=>.ok (x::xs)
def dh (F:Fl) (end_:Int):List Row→Except (Int×Int) (List En)
 | []=>.error (end_,116)
 | (l,row)::rest=>if row.length≠1 then .error (l,111) else if bI (fieldAt row 0).data.toList 8192≠0 then .error (l,13)
   else match vS F (aJ (fieldAt row 0).data.toList 8192) 0 rest with
    | .error p=>.error p
    | .ok xs=>if (xs.length:Int) < aJ (fieldAt row 0).data.toList 8192 then .error (end_,116) else .ok xs
def mg (F:Fl) (l:List UInt8):Except (Int×Int) (List En) :=
 if 65536 < l.length then .error (0,10) else dh F ((aV l).length+1) (rowsOf (aC l))
theorem nK (F:Fl) (count:Int) (i:Nat):vS F count i []=.ok []:=rfl
theorem MP {F:Fl} {count:Int} {i:Nat} {l:Int} {row:List ByteArray} {rest:List Row} (h:(i:Int)=count):vS F count i ((l,row)::rest)=.error (l,116):=by rw [vS,if_pos h]
theorem PW {F:Fl} {count:Int} {i:Nat} {l c:Int} {row:List ByteArray} {rest:List Row} (h:(i:Int)≠count) (he:jy F row=.error c):vS F count i ((l,row)::rest)=.error (l,c):=by rw [vS,if_neg h,he]
theorem MQ {F:Fl} {count:Int} {i:Nat} {l:Int} {row:List ByteArray} {rest:List Row} {x:En} (h:(i:Int)≠count) (he:jy F row=.ok x) :
 vS F count i ((l,row)::rest)=match vS F count (i+1) rest with | .error p=>.error p | .ok xs=>.ok (x::xs):=by rw [vS,if_neg h,he]
def lu (F:Fl) (count:Int) (all:List Row) (i:Nat) (acc:List En):Prop :=
 acc.length=i∧i≤all.length∧vS F count 0 all=match vS F count i (all.drop i) with | .error p=>.error p | .ok xs=>.ok (acc++xs)
theorem lu.start (F:Fl) (count:Int) (all:List Row):lu F count all 0 []:=⟨rfl,Nat.zero_le _,by
 rw [List.drop_zero]
 cases vS F count 0 all<;>rfl⟩
theorem lu.many {F:Fl} {count:Int} {all:List Row} {i:Nat} {acc:List En} (h:lu F count all i acc) (hi:i < all.length) (hc:(i:Int)=count):vS F count 0 all=.error (all[i].1,116):=by
 rw [h.2.2,List.drop_eq_getElem_cons hi,MP hc]
theorem lu.bad {F:Fl} {count:Int} {all:List Row} {i:Nat} {acc:List En} (h:lu F count all i acc) (hi:i < all.length) (hc:(i:Int)≠count) {c:Int} (he:jy F all[i].2=.error c):vS F count 0 all=.error (all[i].1,c):=by
 rw [h.2.2,List.drop_eq_getElem_cons hi,PW hc he]
theorem lu.more {F:Fl} {count:Int} {all:List Row} {i:Nat} {acc:List En} (h:lu F count all i acc) (hi:i < all.length) (hc:(i:Int)≠count) {x:En} (he:jy F all[i].2=.ok x):lu F count all (i+1) (acc++[x]):=by
 refine⟨by rw [List.length_append,h.1];rfl,hi,?_⟩
 rw [h.2.2,List.drop_eq_getElem_cons hi,MQ hc he]
 cases vS F count (i+1) (all.drop (i+1)) with
 | error p=>rfl
 | ok xs=>simp
theorem lu.done {F:Fl} {count:Int} {all:List Row} {acc:List En} (h:lu F count all all.length acc):vS F count 0 all=.ok acc:=by
 rw [h.2.2,List.drop_length,nK]
 simp
theorem IE {F:Fl} {count:Int}:∀(all:List Row) (i:Nat) (xs:List En),vS F count i all=.ok xs→xs.length=all.length
 | [],i,xs,h=>by rw [nK] at h;cases h;rfl
 | (l,row)::rest,i,xs,h=>by
   rw [vS] at h
   split at h
   ·cases h
   ·split at h
    ·cases h
    ·split at h
     ·cases h
     ·rename_i ys hy
      cases h
      rw [List.length_cons,List.length_cons,IE rest (i+1) ys hy]
theorem JZ (v:Value) (zs:List Int) (x:Int) (w:World) (h:FS w v zs) (hbig:zs.length≤9223372036854775807) :
  Calls Tryz.prog 123 #[v,.int .u16 x] w fun e w'=>e=.returned (.int .i64 (Lib.idxOf zs x))∧w'=w:=by
 obtain⟨p,c,rfl,hcap,hs⟩:=h
 have hS:=hid hs;clear hs
 go_enter Tryz.func123,Tryz.ntmps123
 go_wp2
 go_loop [5,8] (fun _ i=>∃k:Nat,k≤zs.length∧i=.int .i64 k∧∀j,j < k→zs.getD j 0≠x) (fun _ i=>zs.length - (intOf i).toNat)
 case atStart=>exact⟨0,Nat.zero_le _,rfl,fun j hj=>absurd hj (Nat.not_lt_zero _)⟩
 case round =>
 obtain⟨k,hk,rfl,hne⟩:=hrel
 have hN:=hid hne;clear hne
 by_cases hlt:k < zs.length
 ·obtain⟨b,off,rfl,hc⟩:=hS.out.resolve_left (by omega)
  have hcell:=hc k hlt
  generalize hz:zs.getD k 0=z at hcell
  clear hc
  cases hq:(x==z)
  ·go_wp2
   go_roundw
   case rel =>
    refine⟨k+1,by omega,by go_num,fun j hj=>?_⟩
    by_cases e:j=k
    ·subst e;rw [hz];intro e;rw [e] at hq;simp at hq
    exact hN.out j (by omega)
   case measure=>simp [intOf];omega
  go_wp2
  go_ret
  have:=Lib.idxOf_hit zs zs.length k x hlt (Nat.le_refl _) (by rw [hz];exact (beq_iff_eq.1 hq).symm) hN.out
  rw [List.take_length] at this
  exact⟨by rw [this];rfl,rfl⟩
 have hke:k=zs.length:=by omega
 subst hke
 go_wp2
 go_ret
 have:=Lib.idxOf_miss zs zs.length x hN.out
 rw [List.take_length] at this
 exact⟨by rw [this];rfl,rfl⟩
theorem BX (v:Value) (zs:List Int) (x:Int) (w:World) (h:FS w v zs) (hbig:zs.length≤9223372036854775807) :
  Calls Tryz.prog 86 #[v,.int .u16 x] w fun e w'=>e=.returned (.bool (zs.contains x))∧w'=w:=by
 have hb:zs.contains x=decide (0≤Lib.idxOf zs x):=by
  rw [Bool.eq_iff_iff,decide_eq_true_eq,Lib.idxOf_nonneg_iff]
 have hbb:=hid hb;clear hb;have hF:=hid h;obtain⟨p,c,rfl,hcap,-⟩:=h
 go_enter Tryz.func86,Tryz.ntmps86
 go_wp2_with (go_at_call 123;refine (JZ _ zs x _ hF.out hbig).mono ?_;rintro e w' ⟨rfl,rfl⟩)
 go_ret
 exact⟨by rw [hbb.out];rfl,rfl⟩
theorem jL (l c:Int) (w:World):Calls Tryz.prog 48 #[.int .i64 l,.int .i64 c] w fun e w'=>e=.returned (.agg #[.int .i64 2,.int .i64 l,.int .i64 c])∧Below w.heap.size w w':=by
 go_enter Tryz.func48,Tryz.ntmps48
 go_wp2_with fail
 refine bodyPost_ret (v:=.agg #[.int .i64 2,.int .i64 l,.int .i64 c]) (by simp [results,Tryz.results48,go_sem];try rfl) rfl ?_
 exact⟨rfl,(Below.refl _ _).alloc (Nat.le_refl _) _⟩
def kM (row:List ByteArray):Int×Int:=if row.length≠1 then (0,111) else (aJ (fieldAt row 0).data.toList 8192,bI (fieldAt row 0).data.toList 8192)
theorem MR (l:Int) (fv:Value) (row:List ByteArray) (w:World) (hr:Rd w 1 fv row.length (bn row)) (hs:∀j,(fieldAt row j).size≤65536) (hn:row.length≤9223372036854775807) :
  Calls Tryz.prog 49 #[.agg #[.int .i64 l,fv]] w fun e w'=>e=.returned (.tuple #[.int .i64 (kM row).1,.int .i64 (kM row).2])∧Below w.heap.size w w':=by
 obtain⟨-,A,cp,rfl,hcap,hcells⟩:=hr
 have hb1:Below w.heap.size w (w.alloc (.cells #[.int .i64 l,.slice A row.length cp] 133)):=(Below.refl _ _).alloc (Nat.le_refl _) _;have HB1:=hid hb1
 by_cases h1:row.length=1
 ·obtain⟨g,o,rfl,hc⟩:=hcells.resolve_left (by omega)
  have hx:(bn row)[0]?=some (.string (fieldAt row 0)):=by
   match row,h1 with
   | [f],_=>rfl
  have c1:=hc 0 _ hx;rw [Nat.add_zero] at c1;have Uw:=hid ((hb1.cell (block_lt_of_cell? _ _ c1)).trans c1)
  have HX:Hid (kM row=(aJ (fieldAt row 0).data.toList 8192,bI (fieldAt row 0).data.toList 8192)):=hid (by rw [kM,if_neg (by omega)])
  have HN:Hid (∀W,Calls Tryz.prog 63 #[.string (fieldAt row 0),.int .i64 8192] W fun e W'=>e=.returned (.tuple #[.int .i64 (aJ (fieldAt row 0).data.toList 8192),.int .i64 (bI (fieldAt row 0).data.toList 8192)])∧W=W'):=hid (fun W=>by
   have h2:=nu (fieldAt row 0) 8192 W (by have:=hs 0;unfold maxLen;omega) (by omega) (by omega)
   unfold dw at h2
   exact h2)
  rw [h1] at HB1 Uw hcap ⊢;rw [HX.o]
  generalize fieldAt row 0=f at *
  have d1:=Uw.o;clear hcells hc hx c1 hb1 hs hn h1 HX
  go_enter Tryz.func49,Tryz.ntmps49
  go_wp2_with (go_at_call 63;refine (HN.o _).mono ?_;rintro e w2 ⟨rfl,rfl⟩)
  go_ret2
  exact⟨rfl,HB1.o⟩
 have h1':((row.length:Int) != 1)=true:=by rw [bne_iff_ne];omega
 have HX:Hid (kM row=(0,111)):=hid (by rw [kM,if_pos h1])
 rw [HX.o];clear hcells hb1 hs h1 HX
 go_enter Tryz.func49,Tryz.ntmps49
 go_wp2_with fail
 go_ret2
 exact⟨rfl,HB1.o⟩
theorem sZ {w w':World} {size n:Nat} {p:Option Addr} {xs:List Value} (hs:n=0∨∃g o,p=some ⟨g,o,none⟩∧∀j u,xs[j]?=some u→w.cell? ⟨g,o+j,none⟩=some u) (hl:xs.length=n*size) (hb:Below w.heap.size w w') :
  n=0∨∃ad,p=some ad∧∀j u,xs[j]?=some u→w'.cell? (ad.add j)=some u:=by
 refine hs.imp id ?_
 rintro⟨b,off,rfl,hc⟩
 refine⟨_,rfl,fun j u hj=>?_⟩
 have h1:=hc j u hj;rw [Addr.add_lit]
 exact (hb.cell (block_lt_of_cell? w _ h1)).trans h1
theorem DN (v:Value) (n:Nat) (xs:List Value) (w:World) (h:Rd w 2 v n xs) (h1:∀u∈xs,u.oneCell'=true) (hn:n≤65536) :
  Calls Tryz.prog 57 #[v] w fun e w'=>∃v',e=.returned v'∧Own w w' 145 2 v' n xs:=by
 obtain⟨hl,p,c,rfl,hcap,hs⟩:=h
 obtain⟨i0,hi,hz0,hz1,hz2⟩:=info_parts DR
 have qn:∀(w:World) (a:Option Addr) (n c n' c':Nat),(binOp .eql 78 (.slice a n c) (.slice none n' c')).run Tryz.prog w=.ok (.bool a.isNone) w:=fun w a n c n' c'=>run_eql_slice_nil w _ _ a n c n' c' Tryz.underlying78
 have hS:=hid hs;have HL:=hid hl;clear hs hl
 cases p with
 | none =>
  have h0:n=0:=hS.out.resolve_right (by rintro⟨b,off,hp,_⟩;cases hp)
  clear hS
  subst h0
  have hx:Hid (xs=[]):=hid (List.eq_nil_of_length_eq_zero (by rw [HL.o,Nat.zero_mul]))
  go_enter Tryz.func57,Tryz.ntmps57
  go_wp2
  go_ret
  exact⟨_,rfl,by rw [hx.out];exact Own.fP _ _ _⟩
 | some ad =>
  have hr:=eF (P:=Tryz.prog) (w.alloc (.cells #[] 145)) w.heap.size 78 78 145 i0 (.agg #[.string ByteArray.empty,.string ByteArray.empty]) 2 32 Tryz.underlying78 hi hz0 hz1 hz2 rfl (by decide) _ 0 [] (World.ownsRow_made w #[] 0 (Nat.le_refl _) (Nat.zero_le _) rfl)
   (some ad) n c xs HL.o (sZ hS.out HL.o ((Below.refl _ w).alloc (Nat.le_refl _) _)) h1 (by unfold maxLen;omega) (by omega) (by simp)
  obtain⟨v',w1,hrun,hown,hg,-⟩:=hr;rw [Nat.zero_add,List.nil_append] at hown;have HR:=hid hrun;have HO:=hid hown;have HG:=hid hg;clear hrun hown hg hS
  go_enter Tryz.func57,Tryz.ntmps57
  go_wp2_with (at_builtin;refine wpList_append_run _ rfl _ _ _ _ rfl _ _ rfl rfl _ _ HR.o ?_)
  go_ret
  refine⟨v',rfl,⟨?_,HO.o⟩⟩
  exact ((Below.refl _ w).alloc (Nat.le_refl _) _).grown HG.o (by simp) (by intro g hg;simp [Value.ownBlock] at hg;omega)
theorem DT (v:Value) (n:Nat) (xs:List Value) (w:World) (h:Rd w 5 v n xs) (h1:∀u∈xs,u.oneCell'=true) (hn:n≤65536) :
  Calls Tryz.prog 58 #[v] w fun e w'=>∃v',e=.returned v'∧Own w w' 99 5 v' n xs:=by
 obtain⟨hl,p,c,rfl,hcap,hs⟩:=h
 obtain⟨i0,hi,hz0,hz1,hz2⟩:=info_parts vD
 have qn:∀(w:World) (a:Option Addr) (n c n' c':Nat),(binOp .eql 80 (.slice a n c) (.slice none n' c')).run Tryz.prog w=.ok (.bool a.isNone) w:=fun w a n c n' c'=>run_eql_slice_nil w _ _ a n c n' c' Tryz.underlying80
 have hS:=hid hs;have HL:=hid hl;clear hs hl
 cases p with
 | none =>
  have h0:n=0:=hS.out.resolve_right (by rintro⟨b,off,hp,_⟩;cases hp)
  clear hS
  subst h0
  have hx:Hid (xs=[]):=hid (List.eq_nil_of_length_eq_zero (by rw [HL.o,Nat.zero_mul]))
  go_enter Tryz.func58,Tryz.ntmps58
  go_wp2
  go_ret
  exact⟨_,rfl,by rw [hx.out];exact Own.fP _ _ _⟩
 | some ad =>
  have hr:=eF (P:=Tryz.prog) (w.alloc (.cells #[] 99)) w.heap.size 80 80 99 i0 (.agg #[.int .u16 0,.int .i64 0,.bool false,.int .i64 0,.int .i64 0]) 5 40 Tryz.underlying80 hi hz0 hz1 hz2 rfl (by decide) _ 0 [] (World.ownsRow_made w #[] 0 (Nat.le_refl _) (Nat.zero_le _) rfl)
   (some ad) n c xs HL.o (sZ hS.out HL.o ((Below.refl _ w).alloc (Nat.le_refl _) _)) h1 (by unfold maxLen;omega) (by omega) (by simp)
  obtain⟨v',w1,hrun,hown,hg,-⟩:=hr;rw [Nat.zero_add,List.nil_append] at hown;have HR:=hid hrun;have HO:=hid hown;have HG:=hid hg;clear hrun hown hg hS
  go_enter Tryz.func58,Tryz.ntmps58
  go_wp2_with (at_builtin;refine wpList_append_run _ rfl _ _ _ _ rfl _ _ rfl rfl _ _ HR.o ?_)
  go_ret
  refine⟨v',rfl,⟨?_,HO.o⟩⟩
  exact ((Below.refl _ w).alloc (Nat.le_refl _) _).grown HG.o (by simp) (by intro g hg;simp [Value.ownBlock] at hg;omega)
theorem DU (v:Value) (n:Nat) (xs:List Value) (w:World) (h:Rd w 1 v n xs) (h1:∀u∈xs,u.oneCell'=true) (hn:n≤65536) :
  Calls Tryz.prog 59 #[v] w fun e w'=>∃v',e=.returned v'∧Own w w' 29 1 v' n xs:=by
 obtain⟨hl,p,c,rfl,hcap,hs⟩:=h
 obtain⟨i0,hi,hz0,hz1,hz2⟩:=info_parts xU
 have qn:∀(w:World) (a:Option Addr) (n c n' c':Nat),(binOp .eql 79 (.slice a n c) (.slice none n' c')).run Tryz.prog w=.ok (.bool a.isNone) w:=fun w a n c n' c'=>run_eql_slice_nil w _ _ a n c n' c' Tryz.underlying79
 have hS:=hid hs;have HL:=hid hl;clear hs hl
 cases p with
 | none =>
  have h0:n=0:=hS.out.resolve_right (by rintro⟨b,off,hp,_⟩;cases hp)
  clear hS
  subst h0
  have hx:Hid (xs=[]):=hid (List.eq_nil_of_length_eq_zero (by rw [HL.o,Nat.zero_mul]))
  go_enter Tryz.func59,Tryz.ntmps59
  go_wp2
  go_ret
  exact⟨_,rfl,by rw [hx.out];exact Own.fP _ _ _⟩
 | some ad =>
  have hr:=eF (P:=Tryz.prog) (w.alloc (.cells #[] 29)) w.heap.size 79 79 29 i0 (.slice none 0 0) 1 24 Tryz.underlying79 hi hz0 hz1 hz2 rfl (by decide) _ 0 [] (World.ownsRow_made w #[] 0 (Nat.le_refl _) (Nat.zero_le _) rfl)
   (some ad) n c xs HL.o (sZ hS.out HL.o ((Below.refl _ w).alloc (Nat.le_refl _) _)) h1 (by unfold maxLen;omega) (by omega) (by simp)
  obtain⟨v',w1,hrun,hown,hg,-⟩:=hr;rw [Nat.zero_add,List.nil_append] at hown;have HR:=hid hrun;have HO:=hid hown;have HG:=hid hg;clear hrun hown hg hS
  go_enter Tryz.func59,Tryz.ntmps59
  go_wp2_with (at_builtin;refine wpList_append_run _ rfl _ _ _ _ rfl _ _ rfl rfl _ _ HR.o ?_)
  go_ret
  refine⟨v',rfl,⟨?_,HO.o⟩⟩
  exact ((Below.refl _ w).alloc (Nat.le_refl _) _).grown HG.o (by simp) (by intro g hg;simp [Value.ownBlock] at hg;omega)
theorem DV (v:Value) (n:Nat) (xs:List Value) (w:World) (h:Rd w 7 v n xs) (h1:∀u∈xs,u.oneCell'=true) (hn:n≤65536) :
  Calls Tryz.prog 60 #[v] w fun e w'=>∃v',e=.returned v'∧Own w w' 31 7 v' n xs:=by
 obtain⟨hl,p,c,rfl,hcap,hs⟩:=h
 obtain⟨i0,hi,hz0,hz1,hz2⟩:=info_parts Ay
 have qn:∀(w:World) (a:Option Addr) (n c n' c':Nat),(binOp .eql 81 (.slice a n c) (.slice none n' c')).run Tryz.prog w=.ok (.bool a.isNone) w:=fun w a n c n' c'=>run_eql_slice_nil w _ _ a n c n' c' Tryz.underlying81
 have hS:=hid hs;have HL:=hid hl;clear hs hl
 cases p with
 | none =>
  have h0:n=0:=hS.out.resolve_right (by rintro⟨b,off,hp,_⟩;cases hp)
  clear hS
  subst h0
  have hx:Hid (xs=[]):=hid (List.eq_nil_of_length_eq_zero (by rw [HL.o,Nat.zero_mul]))
  go_enter Tryz.func60,Tryz.ntmps60
  go_wp2
  go_ret
  exact⟨_,rfl,by rw [hx.out];exact Own.fP _ _ _⟩
 | some ad =>
  have hr:=eF (P:=Tryz.prog) (w.alloc (.cells #[] 31)) w.heap.size 81 81 31 i0 (.agg #[.int .i64 0,.int .u16 0,.bool false,.string ByteArray.empty,.string ByteArray.empty,.string ByteArray.empty,.slice none 0 0]) 7 88 Tryz.underlying81 hi hz0 hz1 hz2 rfl (by decide) _ 0 [] (World.ownsRow_made w #[] 0 (Nat.le_refl _) (Nat.zero_le _) rfl)
   (some ad) n c xs HL.o (sZ hS.out HL.o ((Below.refl _ w).alloc (Nat.le_refl _) _)) h1 (by unfold maxLen;omega) (by omega) (by simp)
  obtain⟨v',w1,hrun,hown,hg,-⟩:=hr;rw [Nat.zero_add,List.nil_append] at hown;have HR:=hid hrun;have HO:=hid hown;have HG:=hid hg;clear hrun hown hg hS
  go_enter Tryz.func60,Tryz.ntmps60
  go_wp2_with (at_builtin;refine wpList_append_run _ rfl _ _ _ _ rfl _ _ rfl rfl _ _ HR.o ?_)
  go_ret
  refine⟨v',rfl,⟨?_,HO.o⟩⟩
  exact ((Below.refl _ w).alloc (Nat.le_refl _) _).grown HG.o (by simp) (by intro g hg;simp [Value.ownBlock] at hg;omega)
end Go.Proofs.YtfkblpjfknfgbaaGreatDoor
