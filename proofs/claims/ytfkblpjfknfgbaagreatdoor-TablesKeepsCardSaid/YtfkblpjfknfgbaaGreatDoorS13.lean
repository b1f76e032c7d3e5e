/-
 Parts of the proof: AF23, AR14, DC0, DC1, DC2, AL1.
-/
import Derived.Test.YtfkblpjfknfgbaaGreatDoorRows
import Derived.Test.YtfkblpjfknfgbaaGreatDoorS9
import Derived.Laws.EntriesVeiled
import Derived.BigQuiet
import Derived.Test.YtfkblpjfknfgbaaGreatDoorS12
import Derived.Test.YtfkblpjfknfgbaaGreatDoorS4
import Derived.Test.YtfkblpjfknfgbaaGreatDoorS3
import Derived.Test.YtfkblpjfknfgbaaGreatDoorS6
set_option linter.unusedVariables false
set_option linter.unusedSimpArgs false
set_option maxHeartbeats 8000000
set_option maxRecDepth 100000
open Go.Maps Go.RowKit
open Go.Lib (hid cell_of_heap frozen_of_heap wpList_append_run run_eql_slice_nil)
open Go.World (block_lt_of_cell?)
namespace Go.Proofs.YtfkblpjfknfgbaaGreatDoor
structure FileAt (w:World) (fb:Nat) (F:Fl):Prop where
 mem:∃(i:Ids) (v:Vs) (n:Nat),i.fb=fb∧w.heap[fb]?=some (.cells (fileV i v F) 116 (0,0))∧PlF w i.mb n (clsIx F.cls)∧Rd w 2 v.reps F.reps.length (repCells F.reps) ∧
  (∃us:List Value,Rd w 1 v.als F.als.length us∧us.length=F.als.length∧∀(k:Nat) u a,us[k]?=some u→F.als[k]?=some a→FS w u a)∧Rd w 5 v.cls F.cls.length (clsCells F.cls) ∧
  (∃rs:List (Rl×Value),rs.map (·.1)=F.rls∧Rd w 7 v.rls rs.length (rlsCells rs)∧∀r∈rs,FS w r.2 r.1.next)
structure FlOk (F:Fl):Prop where
 reps:F.reps.length≤65536
 als:F.als.length≤65536
 cls:F.cls.length≤65536
 rls:F.rls.length≤65536
 flags:∀c∈F.cls,0 < c.flag∧c.flag≤65535
 sets:∀a∈F.als,canon a=a∧∀x∈a,0≤x∧x≤65535
 nexts:∀r∈F.rls,canon r.next=r.next∧∀x∈r.next,0≤x∧x≤65535
 kind:1≤F.kind∧F.kind≤3
 sp:∀n,0≤spAt F n∧spAt F n≤65535
theorem FileAt.keep {w w':World} {fb:Nat} {F:Fl} (h:FileAt w fb F) (hb:Below w.heap.size w w'):FileAt w' fb F:=by
 obtain⟨i,v,n,h0,h1,h2,h3,⟨us,h4,h5,h6⟩,h7,rs,h8,h9,h10⟩:=h.mem
 exact⟨i,v,n,h0,(hb.block _ (block_lt h1)).trans h1,h2.below hb,h3.keep hb,⟨us,h4.keep hb,h5,fun k u a hu ha=>(h6 k u a hu ha).keep hb⟩,h7.keep hb,rs,h8,h9.keep hb,fun r hr=>(h10 r hr).keep hb⟩
theorem Bd.flOk {kh k:Nat} {S:Sx} (h:Bd kh k S):FlOk S.fl :=
 ⟨by have:=h.reps;omega,by have:=h.als;omega,by have:=h.cls;omega,by have:=h.rls;omega,h.flags,h.sets,h.nexts,h.kind,h.sp⟩
def affEnd:RX→Except (Int×Int) Fl
 | .error e=>.error e
 | .ok S=>match checkE S.fl with
   | some line=>.error (line,118)
   | none=>.ok S.fl
theorem affR_small (l:List UInt8) (h:¬65536 < l.length):affR l=affEnd (readGo ((linesOf l).length+1) (rowsOf (eachOf l)).length ⟨fl0,rowsOf (eachOf l),[],0⟩):=by
 rw [affR,if_neg h]
 rcases readGo ((linesOf l).length+1) (rowsOf (eachOf l)).length ⟨fl0,rowsOf (eachOf l),[],0⟩ with e | S<;>rfl
def fltV (line c:Int):Value:=.agg #[.int .i64 1,.int .i64 line,.int .i64 c]
def ReadP (l:List UInt8) (w:World) (e:Ending) (w':World):Prop:=Below w.heap.size w w'∧match affR l with
 | .error p=>e=.returned (.tuple #[.pointer none,fltV p.1 p.2])
 | .ok F=>∃fb,e=.returned (.tuple #[.pointer (some ⟨fb,0,none⟩),.agg #[.int .i64 0,.int .i64 0,.int .i64 0]])∧FileAt w' fb F∧FlOk F∧w.heap.size≤fb
theorem RM.go_base {w0 w w':World} {L L':List Nat} {i:Ids} {E:Int} {kh k:Nat} {S:Sx} (h:RM w0 w L i E kh k S) (hg:Go2 L w L' w'):Below w0.heap.size w0 w':=by
 obtain⟨_,v,hv⟩:=h
 exact hv.base.trans (hg.1.below hv.base.size (fun x hx=>(hv.hl x hx).1))
theorem read_fault {l:List UInt8} {w w2 W:World} {line c:Int} {tmps:Array Value} (hf:w2.heap[w.heap.size]?=some (.cells #[.pointer none] 57 (0,0))∧w2.heap[w.heap.size+1]?=some (.cells #[.int .i64 0,.int .i64 0,.int .i64 0] 60 (0,0)))
  (hB:Below w.heap.size w w2) (hb:Below w2.heap.size w2 W) (ha:affR l=.error (line,c)) (h2:tmps[2]?.getD undef=.pointer (some ⟨w.heap.size,0,none⟩)) (h3:tmps[3]?.getD undef=.pointer (some ⟨w.heap.size+1,0,none⟩)) :
  bodyPostD Tryz.prog Tryz.f16 (ReadP l w) (Exit.panic [flt line c]) { tmps:=tmps,defers:=[readDefer w.heap.size (w.heap.size+1)] } W:=by
 refine leave_flt w.heap.size (w.heap.size+1) _ _ _ _ line c W tmps _ h2 h3 ((hb.block _ (block_lt hf.1)).trans hf.1) ((hb.block _ (block_lt hf.2)).trans hf.2) (by omega) (fun W' hk=>⟨?_,?_⟩)
 ·have h1:=hB.trans (hb.mono hB.size)
  exact h1.trans (hk.below h1.size (by intro x hx;simp at hx;omega))
 rw [ha];rfl
def HdB (W:World) (L:List Nat) (b:Nat):Prop:=b∉L∧HdM W b 13
theorem HdM.lt {W:World} {b n:Nat} (h:HdM W b n):b < W.heap.size:=by
 obtain⟨D,hD,_⟩:=h
 exact hD.lt
theorem HdB.go {W W':World} {L L':List Nat} {b:Nat} (h:HdB W L b) (hg:Go2 L W L' W'):HdB W' L' b :=
 ⟨fun hm=>by
  rcases hg.2 b hm with h1 | h1
  ·exact h.1 h1
  ·have:=h.2.lt;omega,h.2.keep hg.1 h.1⟩
theorem FS.kept {E:List Nat} {w w':World} {v:Value} {zs:List Int} (h:FS w v zs) (hk:Kept E w w') (hne:∀b∈E,∀j z,w.cell? ⟨b,j,none⟩≠some (.int .u16 z)):FS w' v zs:=by
 obtain⟨p,c,hv,hc,h⟩:=h
 refine⟨p,c,hv,hc,h.imp id ?_⟩
 rintro⟨b,off,hp,h2⟩
 refine⟨b,off,hp,fun j hj=>?_⟩
 have h3:=h2 j hj
 exact (hk.cell (p:=⟨b,off+j,none⟩) (block_lt_of_cell? w _ h3) (fun hm=>hne b hm _ _ h3)).trans h3
theorem RMv.fileKept {E0:List Nat} {w0 w w':World} {L:List Nat} {i:Ids} {v:Vs} {E:Int} {S:Sx} {nx:List Int} {tf:Int→Int} {tn cn:Nat} (h:RMv w0 w L i v E S nx tf tn (clsIx S.fl.cls) cn) (hk:Kept E0 w w') (hE:∀x∈E0,x < w0.heap.size) (hne:∀b∈E0,∀j z,w.cell? ⟨b,j,none⟩≠some (.int .u16 z)):FileAt w' i.fb S.fl:=by
 have ho:∀g∈L,g∉E0:=fun g hg hm=>by have:=(h.hl g hg).1;have:=hE g hm;omega
 obtain⟨us,h1,h2,h3⟩:=h.als
 obtain⟨rs,h4,h5,h6⟩:=h.rls
 refine⟨i,v,cn,rfl,hk.at h.file (ho _ h.fbL),h.cmap.keep hk (ho _ h.mbL),Rd.of_own (hk.own h.reps.1 (fun g hg=>ho _ (h.reps.2 g hg))),⟨us,Rd.of_own (hk.own h1.1 (fun g hg=>ho _ (h1.2 g hg))),h2,fun k u a hu ha=>((h3 k u a hu ha).fs).kept hk hne⟩,
  Rd.of_own (hk.own h.cls.1 (fun g hg=>ho _ (h.cls.2 g hg))),rs,h4,Rd.of_own (hk.own h5.1 (fun g hg=>ho _ (h5.2 g hg))),fun r hr=>((h6 r hr).fs).kept hk hne⟩
theorem HdB.start {W':World} {n b:Nat} (h:HdM W' b 13) (hb:n+5≤b):HdB W' (own0 n) b:=⟨fun hm=>by simp [own0] at hm;omega,h⟩
theorem so_affRead (s:ByteArray) (m0:Int) (w:World) (h0:0 < w.heap.size) (hm:w.cell? ⟨0,0,none⟩=some (.int .i64 m0)) :
  Calls Tryz.prog 16 #[.string s] w (ReadP s.data.toList w):=by
 obtain⟨wA,hwA⟩:∃W,((w.alloc (.cells #[.pointer none] 57)).alloc (.cells #[.int .i64 0,.int .i64 0,.int .i64 0] 60))=W:=⟨_,rfl⟩
 have hbA:Below w.heap.size w wA:=by rw [←hwA];exact ((Below.refl _ _).alloc (Nat.le_refl _) _).alloc (by simp) _
 have hsA:wA.heap.size=w.heap.size+1+1:=by rw [←hwA];simp
 have hfA:wA.heap[w.heap.size]?=some (.cells #[.pointer none] 57 (0,0)):=by
  rw [←hwA,Below.heap_alloc _ _ _ (by simp)];exact heap_alloc_new w _
 have heA:wA.heap[w.heap.size+1]?=some (.cells #[.int .i64 0,.int .i64 0,.int .i64 0] 60 (0,0)):=by
  have:=heap_alloc_new (w.alloc (.cells #[.pointer none] 57)) (.cells #[.int .i64 0,.int .i64 0,.int .i64 0] 60)
  rw [World.size_alloc] at this
  rw [←hwA];exact this
 have hmA:wA.cell? ⟨0,0,none⟩=some (.int .i64 m0):=(hbA.cell (block_lt_of_cell? _ _ hm)).trans hm
 have HRows:=hid (Rows_any s m0 wA (by omega) hmA)
 have HSplit:Hid (∀W,Below wA.heap.size wA W→Calls Tryz.prog 42 #[.string s] W fun e W'=>∃v,e=.returned (.tuple #[v,.int .i64 (if 65536 < s.size then 10 else 0)])∧W'.ownsRow W.heap.size 9 1 v (eachOf s.data.toList).length (lineV (eachOf s.data.toList))∧Below W.heap.size W W'):=hid (fun W hW=>Split_any s m0 W (by have:=hW.size;omega) ((hW.cell (block_lt_of_cell? _ _ hmA)).trans hmA))
 have HA:=hid (⟨hbA,hsA,hfA,heA,hmA⟩:_∧_∧_∧_∧_)
 clear hbA hsA hfA heA hmA hm
 by_cases hbig:65536 < s.size
 ·have HX:Hid (affR s.data.toList=.error (0,10)):=hid (by rw [affR,if_pos (by rw [len_toList];exact hbig)])
  unfold codeS at HRows
  rw [if_pos hbig] at HRows
  go_enter_defers Tryz.func16,Tryz.ntmps16
  obtain⟨hbA,hsA,hfA,heA,hmA⟩:=HA.out
  clear hmA
  go_wp2_with (go_at_call 41;refine HRows.out.mono ?_;rintro e w1 ⟨v,rs,rfl,how,hrr,habs,hb1⟩;have HB1:=hid (hbA.trans (hb1.mono hbA.size));have hf1:=(hb1.block _ (block_lt hfA)).trans hfA;have he1:=(hb1.block _ (block_lt heA)).trans heA;clear how hrr habs hb1;have q0:w1.cell? ⟨w.heap.size,0,none⟩=some (.pointer none):=by { rw [cell_of_heap hf1];rfl };have q1:w1.cell? ⟨w.heap.size+1,0,none⟩=some (.int .i64 0):=by { rw [cell_of_heap he1];rfl };have q2:w1.cell? ⟨w.heap.size+1,1,none⟩=some (.int .i64 0):=by { rw [cell_of_heap he1];rfl };have q3:w1.cell? ⟨w.heap.size+1,2,none⟩=some (.int .i64 0):=by { rw [cell_of_heap he1];rfl };have y0:=frozen_of_heap hf1 0;have y1:=frozen_of_heap he1 0;have y2:=frozen_of_heap he1 1;have y3:=frozen_of_heap he1 2)
  refine leave_nowF w.heap.size (w.heap.size+1) (.pointer none) (.int .i64 1) (.int .i64 0) (.int .i64 10) _ _ _ rfl rfl ?_ ?_ ⟨?_,?_⟩
  ·rw [heap_setCell_other _ ⟨w.heap.size+1,2,none⟩ w.heap.size _ (by simp),heap_setCell_other _ ⟨w.heap.size+1,1,none⟩ w.heap.size _ (by simp),heap_setCell_other _ ⟨w.heap.size+1,0,none⟩ w.heap.size _ (by simp)]
   exact heap_setCell_same w1 w.heap.size 0 _ _ _ hf1
  ·have h1:=heap_setCell_same _ (w.heap.size+1) 0 _ _ (Value.int .i64 1) ((heap_setCell_other w1 ⟨w.heap.size,0,none⟩ (w.heap.size+1) (.pointer none) (by simp)).trans he1)
   have h2:=heap_setCell_same _ (w.heap.size+1) 1 _ _ (Value.int .i64 0) h1
   exact heap_setCell_same _ (w.heap.size+1) 2 _ _ (Value.int .i64 10) h2
  ·exact (((HB1.out.setCell (Nat.le_refl _) _).setCell (by simp) _).setCell (by simp) _).setCell (by simp) _
  rw [HX.out];rfl
 have hcode:codeS s=0:=by unfold codeS;rw [if_neg hbig]
 rw [hcode] at HRows
 rw [if_neg hbig] at HSplit
 go_enter_defers Tryz.func16,Tryz.ntmps16
 obtain⟨hbA,hsA,hfA,heA,hmA⟩:=HA.out
 clear hmA
 go_upto_region 4 with (go_at_call 41;refine HRows.out.mono ?_;rintro e w1 ⟨v,rs,rfl,how,hrr,habs,hb1⟩;have HB1:=hid hb1;have HOw:=hid how;have HRr:=hid hrr;have HAbs:=hid habs;clear how hrr habs hb1)
 obtain⟨Av,cpv,rfl⟩:=own_slice HOw.out
 obtain⟨nE,hnE⟩:∃n,(eachOf s.data.toList).length=n:=⟨_,rfl⟩
 have hnE2:nE≤65536:=by rw [←hnE];exact eachOf_len _
 rw [hnE] at HSplit
 have HNE:=hid hnE
 clear hnE
 have hwr:IntKind.i64.wrap ((nE:Int)+1)=(nE:Int)+1:=by rw [IntKind.wrap_i64];omega
 go_upto_region 5 with (go_at_call 42;refine (HSplit.out _ HB1.out).mono ?_;rintro e w2 ⟨v2,rfl,how2,hb2⟩;obtain⟨A2,cp2,rfl⟩:=own_slice how2;have HB2:=hid hb2;clear how2 hb2)
 have hB12:Below wA.heap.size wA w2:=HB1.out.trans (HB2.out.mono HB1.out.size)
 have HB:=hid (hbA.trans (hB12.mono hbA.size))
 have HF2:Hid (w2.heap[w.heap.size]?=some (.cells #[.pointer none] 57 (0,0))∧w2.heap[w.heap.size+1]?=some (.cells #[.int .i64 0,.int .i64 0,.int .i64 0] 60 (0,0))):=hid ⟨(hB12.block _ (block_lt hfA)).trans hfA,(hB12.block _ (block_lt heA)).trans heA⟩
 have HRows2:Hid (RowsM w2 (.slice Av rs.length cpv) (rowsOf (eachOf s.data.toList))):=hid ⟨rs,HAbs.out,Rd.of_own (own_below HOw.out HB2.out),fun r hr=>(HRr.out r hr).keep HB2.out⟩
 have HM2:=hid ((hB12.cell (block_lt_of_cell? _ _ HA.out.2.2.2.2)).trans HA.out.2.2.2.2)
 clear hbA hsA hfA heA hB12 HSplit HRows HOw HRr HB1 HB2 hwA HA
 go_cut [8] from 13 to 37 (fun p W=>p=.pointer (some ⟨w2.heap.size+4,0,none⟩)∧Hid (RMv w2 W (own0 w2.heap.size) (ids0 w2.heap.size) (vs0 (.slice Av rs.length cpv)) ((nE:Int)+1) ⟨flZ,rowsOf (eachOf s.data.toList),[],0⟩ [] (fun _=>0) 0 (fun _=>none) 0))
 case first =>
  have e1:∀W,(Instr.makeMap 114 none).run Tryz.prog W=.ok (.map (some W.heap.size)) (W.alloc (.map #[] 0)):=fun W=>run_makeMap _ W
  have e2:∀W,(Instr.makeMap 117 none).run Tryz.prog W=.ok (.map (some W.heap.size)) (W.alloc (.map #[] 0)):=fun W=>run_makeMap _ W
  have HSt:=hid (RMv.start w2 (.slice Av rs.length cpv) ((nE:Int)+1) _ HRows2.out)
  unfold worldR at HSt
  go_wp2_with fail
  all_goals go_meet
  all_goals exact⟨rfl,HSt⟩
 case rest =>
 obtain⟨rfl,HSt⟩:=hcut
 clear HRows2 hwr
 go_upto_region 6 with fail
 go_cut [] from 38 to 51 (fun W=>Hid (RM w2 W (own0 w2.heap.size) (ids0 w2.heap.size) ((nE:Int)+1) 0 0 ⟨fl0,rowsOf (eachOf s.data.toList),[],0⟩))
 case first =>
  have HSk:=hid (HSt.out.setF (F':={ flZ with kind:=1 }) 0 (.int .i64 1) (by rfl) rfl rfl rfl rfl)
  have HSl:=hid (HSk.out.setF (F':=fl0) 8 (.int .i64 3) (by rfl) rfl rfl rfl rfl)
  have HSf:=hid (RM.start s.data.toList (HSl.out.below drew_below))
  have c0:wc.cell? ⟨w2.heap.size+4,0,none⟩=some (.pointer (some ⟨w2.heap.size+1,0,none⟩)):=HSt.out.r0
  have k0:wc.cell? ⟨w2.heap.size+1,0,none⟩=some (.int .i64 0):=HSt.out.f0
  have k8:wc.cell? ⟨w2.heap.size+1,8,none⟩=some (.int .i64 0):=HSt.out.f8
  have z0:wc.frozen? ⟨w2.heap.size+1,0,none⟩=false:=HSt.out.fz 0
  have z8:wc.frozen? ⟨w2.heap.size+1,8,none⟩=false:=HSt.out.fz 8
  go_wp2_with fail
  go_region
  all_goals go_wp2_with fail
  all_goals go_meet
  all_goals exact HSf
 case rest =>
 have HRM:=hcut
 clear HSt hcut
 have HHd:Hid (Calls Tryz.prog 44 #[] wc fun e w'=>e=.returned (.map (some wc.heap.size))∧HdM w' wc.heap.size 13∧Below wc.heap.size wc w'):=hid (so_headings wc)
 obtain⟨R,hR⟩:∃R,readGo ((nE:Int)+1) (rowsOf (eachOf s.data.toList)).length ⟨fl0,rowsOf (eachOf s.data.toList),[],0⟩=R:=⟨_,rfl⟩
 have HAff:Hid (affR s.data.toList=affEnd R):=hid (by
  have h1:((linesOf s.data.toList).length:Int)=nE:=by
   rw [←HNE.out,eachOf,if_neg (by rw [len_toList];exact hbig),numbered_len]
  rw [affR_small _ (by rw [len_toList];exact hbig),h1,hR])
 have HR:=hid hR
 obtain⟨kb,hkb⟩:∃n,wc.heap.size=n:=⟨_,rfl⟩
 have HKb:=hid hkb
 obtain⟨N,hN⟩:∃n,(rowsOf (eachOf s.data.toList)).length=n:=⟨_,rfl⟩
 have HNn:=hid hN
 rw [hkb] at HHd
 clear hR hkb hN
 go_wp2_with (go_at_call 44;refine HHd.out.mono ?_;rintro e w3 ⟨rfl,hd3,hb3⟩;have HD3:=hid hd3;have HB3:=hid hb3;clear hd3 hb3)
 have HRM3:=hid (HRM.out.below (w':=w3) (by rw [HKb.out];exact HB3.out))
 have HDB3:Hid (HdB w3 (own0 w2.heap.size) kb):=hid (HdB.start HD3.out (by
  obtain⟨_,v,hv⟩:=HRM.out
  have h1:=(hv.hl (w2.heap.size+4) (by simp [own0])).2
  have h2:=HKb.out
  omega))
 have HSp:Hid (SpInv ⟨fl0,rowsOf (eachOf s.data.toList),[],0⟩):=hid (fun n _ hn=>absurd (by unfold spAt;split<;>rfl) hn)
 obtain⟨ii,hii⟩:∃i,ids0 w2.heap.size=i:=⟨_,rfl⟩
 have hrb:w2.heap.size+4=ii.rb:=by rw [←hii];rfl
 obtain⟨EE,hEE⟩:∃e,(nE:Int)+1=e:=⟨_,rfl⟩
 rw [hii,hEE] at HRM3
 rw [hEE] at HR
 rw [hrb]
 clear HKb HRM HD3 HB3 hii hrb hEE hcode HNE hnE2 HAbs hbig
 go_loopg [10,11,12] N (fun g _ _ _ wr=>∃(S:Sx) (L:List Nat),S.rows.length≤g∧Hid (RM w2 wr L ii EE 0 0 S)∧Hid (HdB wr L kb)∧Hid (SpInv S)∧Hid (readGo EE g S=R))
 case atStart=>exact⟨_,_,Nat.le_of_eq HNn.out,HRM3,HDB3,HSp,hid (by rw [←HNn.out];exact HR.out)⟩
 case round =>
 obtain⟨S,L,hg,HRM,HDB,HSI,HGo⟩:=hrel
 clear HRM3 HDB3 HSp HNn HR HHd
 rcases hrows:S.rows with _ | ⟨⟨l,row⟩,rest⟩
 ·have HRe:Hid (R=.ok S):=hid (by
   rw [←HGo.out]
   rcases gk with _ | g
   ·rfl
   rw [readGo,hrows])
  have c1:∃A c,wr.cell? ⟨ii.rb,1,none⟩=some (.slice A 0 c):=by
   obtain⟨_,v,hv⟩:=HRM.out
   have hr:=hv.rows
   rw [hrows] at hr
   obtain⟨rs',ha,⟨-,A,cap,hvv,-,-⟩,-⟩:=hr
   have hn:rs'.length=0:=by simpa [rowAbs] using congrArg List.length ha
   have:=hv.r1
   rw [hvv,hn] at this
   exact⟨A,cap,this⟩
  obtain⟨A1,cp1,c1⟩:=c1
  obtain⟨hbd,v,hv⟩:=HRM.out
  have HCk:=hid (so_check w2 L ii v EE 0 0 S wr hbd hv)
  have HBd:=hid hbd
  have HV:=hid hv
  have hfb:ii.fb∈L:=hv.fbL
  clear hbd hv hrows
  unfold ChkP at HCk
  cases hce:checkE S.fl with
  | some line =>
   have HX:Hid (affR s.data.toList=.error (line,118)):=hid (by rw [HAff.out,HRe.out,affEnd,hce])
   rw [hce] at HCk
   clear hce
   go_wp2_with fail
   refine HCk.out.mono ?_
   rintro e w9 ⟨hg9,rfl⟩
   exact read_fault HF2.out HB.out (HRM.out.go_base hg9) HX.out rfl rfl
  | none =>
   have HX:Hid (affR s.data.toList=.ok S.fl):=hid (by rw [HAff.out,HRe.out,affEnd,hce])
   rw [hce] at HCk
   clear hce
   go_wp2_with (go_at_call 47;refine HCk.out.mono ?_;rintro e w9 ⟨hg9,rfl,ln,hm9⟩;have HG9:=hid hg9;have HM9:=hid hm9;have q8:=hm9.r0;have hbb:=HRM.out.go_base hg9;have hf9:=(hbb.block _ (block_lt HF2.out.1)).trans HF2.out.1;have he9:=(hbb.block _ (block_lt HF2.out.2)).trans HF2.out.2;have HF9:=hid hf9;have HE9:=hid he9;have HBB:=hid hbb;have q0:w9.cell? ⟨w.heap.size,0,none⟩=some (.pointer none):=by { rw [cell_of_heap hf9];rfl };have q1:w9.cell? ⟨w.heap.size+1,0,none⟩=some (.int .i64 0):=by { rw [cell_of_heap he9];rfl };have q2:w9.cell? ⟨w.heap.size+1,1,none⟩=some (.int .i64 0):=by { rw [cell_of_heap he9];rfl };have q3:w9.cell? ⟨w.heap.size+1,2,none⟩=some (.int .i64 0):=by { rw [cell_of_heap he9];rfl };have y0:=frozen_of_heap hf9 0;have y1:=frozen_of_heap he9 0;have y2:=frozen_of_heap he9 1;have y3:=frozen_of_heap he9 2;clear hf9 he9 hbb hg9 hm9)
   have hz1:=heap_setCell_same _ (w.heap.size+1) 0 _ _ (Value.int .i64 0) ((heap_setCell_other w9 ⟨w.heap.size,0,none⟩ (w.heap.size+1) (.pointer (some ⟨ii.fb,0,none⟩)) (by simp)).trans HE9.out)
   have hz2:=heap_setCell_same _ (w.heap.size+1) 1 _ _ (Value.int .i64 0) hz1
   have hz3:=heap_setCell_same _ (w.heap.size+1) 2 _ _ (Value.int .i64 0) hz2
   have hBs:=HB.out.size
   have hZk:Kept [w.heap.size,w.heap.size+1] w9 ((((w9.setCell ⟨w.heap.size,0,none⟩ (.pointer (some ⟨ii.fb,0,none⟩))).setCell ⟨w.heap.size+1,0,none⟩ (.int .i64 0)).setCell ⟨w.heap.size+1,1,none⟩ (.int .i64 0)).setCell ⟨w.heap.size+1,2,none⟩ (.int .i64 0)) :=
    ((((Kept.refl _ w9).set _ _ _ (.inl (by simp))).set _ _ _ (.inl (by simp))).set _ _ _ (.inl (by simp))).set _ _ _ (.inl (by simp))
   have hFA:=HM9.out.fileKept hZk (by
    have h1:=block_lt HF2.out.2
    intro x hx;simp at hx;omega) (by
    intro b hb j z
    simp at hb
    rcases hb with rfl | rfl
    ·rw [cell_of_heap HF9.out]
     rcases j with _ | j<;>simp
    rw [cell_of_heap HE9.out]
    rcases j with _ | _ | _ | j<;>simp)
   have HFA:=hid hFA
   have HZk:=hid hZk
   have hfbs:w.heap.size≤ii.fb:=by
    obtain⟨_,v',hv'⟩:=HRM.out
    exact Nat.le_trans hBs (hv'.hl _ hfb).1
   refine leave_ret w.heap.size (w.heap.size+1) (.pointer (some ⟨ii.fb,0,none⟩)) (.int .i64 0) (.int .i64 0) (.int .i64 0) _ _ _ rfl rfl ?_ hz3 (fun W' hb'=>⟨?_,?_⟩)
   ·rw [heap_setCell_other _ ⟨w.heap.size+1,2,none⟩ w.heap.size _ (by simp),heap_setCell_other _ ⟨w.heap.size+1,1,none⟩ w.heap.size _ (by simp),heap_setCell_other _ ⟨w.heap.size+1,0,none⟩ w.heap.size _ (by simp)]
    exact heap_setCell_same w9 w.heap.size 0 _ _ _ HF9.out
   ·have h1:=HB.out.trans (HBB.out.mono hBs)
    have h2:=h1.trans (HZk.out.below h1.size (by intro x hx;simp at hx;omega))
    exact h2.trans (hb'.mono h2.size)
   rw [HX.out]
   exact⟨ii.fb,rfl,HFA.out.keep hb',HBd.out.flOk,hfbs⟩
 obtain⟨g,rfl⟩:∃g,gk=g+1:=⟨gk - 1,by rw [hrows] at hg;simp at hg;omega⟩
 have hg2:rest.length≤g:=by rw [hrows] at hg;simpa using hg
 have HRs:Hid (R=match stepR EE S l row rest with
  | .error e=>.error e
  | .ok S'=>readGo EE g S'):=hid (by rw [←HGo.out,readGo,hrows];rfl)
 have HTk:=hid (so_take w2 L ii EE 0 0 S l row rest wr HRM.out hrows)
 have HRW:Hid (∀fv,Rd w2 1 fv row.length (strV row)→RowF1 w2 fv row):=hid (fun fv h=>rowF1_of HRM.out.1 hrows h)
 have hrne:row≠[]:=(HRM.out.1.row (l,row) (by rw [hrows];simp)).1
 have hrl0:0 < row.length:=List.length_pos_iff.2 hrne
 have hrl:row.length≤65536:=(HRM.out.1.row (l,row) (by rw [hrows];simp)).2.1
 have hs0:(fieldAt row 0).size≤maxLen:=Nat.le_trans (fieldAt_le (HRM.out.1.row (l,row) (by rw [hrows];simp)).2.2.1 0) (by unfold maxLen;omega)
 have c1:∃A c,wr.cell? ⟨ii.rb,1,none⟩=some (.slice A (rest.length+1) c):=by
  obtain⟨_,v,hv⟩:=HRM.out
  have hr:=hv.rows
  rw [hrows] at hr
  obtain⟨g0,o0,cap0,fv0,hv0,-⟩:=rows_split hr
  have:=hv.r1
  rw [hv0] at this
  exact⟨_,_,this⟩
 obtain⟨A1,cp1,c1⟩:=c1
 have HSp2:Hid (∀S',stepR EE S l row rest=.ok S'→SpInv S'):=hid (fun S' h=>HSI.out.step h)
 have HSp3:Hid (fieldAt row 0∉S.heads→∀j,j < 5→keyN (fieldAt row 0)=3+j→spAt S.fl j=0):=hid (fun hn j hj hk=>by
  by_cases h:spAt S.fl j=0
  ·exact h
  exact absurd (by have:=HSI.out j hj h;rw [←hk] at this;rwa [←key_of _ (by omega)] at this) hn)
 clear hg hrne hrows HGo HSI
 obtain⟨S2,hS2⟩:∃S2,({ S with rows:=rest,line:=l }:Sx)=S2:=⟨_,rfl⟩
 rw [hS2] at HTk
 have HS2:=hid hS2
 clear hS2
 go_upto_region 11 with (go_at_call 45;refine HTk.out.mono ?_;rintro e w4 ⟨fv,rfl,hrd,hm4,hg4⟩;have HM4:=hid hm4;have HG4:=hid hg4;have HRw:=hid (HRW.out _ hrd);have HDB4:=hid (HDB.out.go hg4);obtain⟨g1,o1,cv1,rfl,hcv1,hcl1⟩:=(HRW.out _ hrd).cells hrl0;have d0:=hcl1 0 hrl0;rw [Nat.add_zero] at d0;have d0':=(hm4.base.cell (block_lt_of_cell? _ _ d0)).trans d0;have HD0:=hid d0;clear hrd hm4 hg4 hcl1 d0)
 have hlk:=HDB4.out.2.look (fieldAt row 0) hs0 (zero_head _)
 have hln:S2.line=l:=by rw [←HS2.out]
 have HMu:Hid (∀W b c,Below w4.heap.size w4 W→c≠0→Calls Tryz.prog 46 #[.pointer (some ⟨ii.rb,0,none⟩),.bool b,.int .i64 c] W (MustP b l c W)):=hid (fun W b c hb hc=>by
  have:=(HM4.out.below hb).r2
  rw [hln] at this
  exact so_must ii.rb l b c W hc this)
 have HBs:Hid (∀W,Below w4.heap.size w4 W→Below w2.heap.size w2 W):=hid (fun W hb=>(HM4.out.below hb).base)
 clear hln
 by_cases hk13:keyN (fieldAt row 0)=13
 ·have HX:Hid (affR s.data.toList=.error (l,110)):=hid (by rw [HAff.out,HRs.out,stepR,if_pos hk13];rfl)
  rw [if_neg (by omega),decide_eq_false (by omega)] at hlk
  unfold hdZ at hlk
  clear hk13
  have hb5:Below w4.heap.size w4 (w4.alloc (.cells #[.int .i64 0,.nilFunc] 126)):=(Below.refl _ _).alloc (Nat.le_refl _) _
  have HB5:=hid hb5
  clear hb5
  go_wp2_with fail
  refine (HMu.out _ _ _ HB5.out (by decide)).mono ?_
  rintro e w9 ⟨⟨hx,-⟩ | ⟨-,rfl⟩,rfl⟩
  ·exact absurd hx (by simp)
  exact read_fault HF2.out HB.out (HBs.out _ HB5.out) HX.out rfl rfl
 have hkl:keyN (fieldAt row 0) < 13:=by have:=keyN_le (fieldAt row 0);omega
 have hkey:=key_of _ hk13
 rw [if_pos hkl,decide_eq_true hkl] at hlk
 obtain⟨k,hk⟩:∃k,keyN (fieldAt row 0)=k:=⟨_,rfl⟩
 have HK:=hid hk
 rw [hk] at hlk hkl hkey
 have HKey:=hid hkey
 unfold hdV at hlk
 obtain⟨wd,hwd⟩:∃n:Nat,widthN k=n:=⟨_,rfl⟩
 have HWd:=hid hwd
 rw [hwd] at hlk
 obtain⟨fn,hfn⟩:∃n:Nat,hdF k=n:=⟨_,rfl⟩
 have HFn:=hid hfn
 rw [hfn] at hlk
 clear hk hkey hwd hfn
 have hwd2:wd=2∧k < 11∨wd=4∧11≤k:=by rw [←HWd.out];exact widthN_of k
 have HW2:=hid hwd2
 have hwdb:wd≤4:=by omega
 clear hwd2
 go_cut [11,12] from 62 to 69 (fun p q W=>∃hb:Nat,p=.pointer (some ⟨hb,0,none⟩)∧q=.bool true∧Hid (Below w4.heap.size w4 W)∧W.cell? ⟨hb,0,none⟩=some (.int .i64 (wd:Int))∧W.cell? ⟨hb,1,none⟩=some (.func (.func fn) #[] #[]))
 case first =>
  have HB5:Hid (Below w4.heap.size w4 (w4.alloc (.cells #[.int .i64 (wd:Int),.func (.func fn) #[] #[]] 126))):=hid ((Below.refl _ _).alloc (Nat.le_refl _) _)
  have HHh:Hid ((w4.alloc (.cells #[.int .i64 (wd:Int),.func (.func fn) #[] #[]] 126)).heap[w4.heap.size]?=some (.cells #[.int .i64 (wd:Int),.func (.func fn) #[] #[]] 126 (0,0))):=hid (heap_alloc_new w4 _)
  go_wp2_with fail
  all_goals go_meet
  all_goals exact⟨_,rfl,rfl,HB5,by rw [cell_of_heap HHh.out];rfl,by rw [cell_of_heap HHh.out];rfl⟩
 case rest =>
 obtain⟨hb,rfl,rfl,HB5,hh0,hh1⟩:=hcut
 have HM5:=hid (HM4.out.below HB5.out)
 have HDB5:=hid (HDB4.out.go (Go2.of_below HB5.out))
 have HG5:=hid (HG4.out.trans (Go2.of_below HB5.out))
 have d5:=(HB5.out.cell (block_lt_of_cell? _ _ d0')).trans d0'
 clear hlk d0'
 by_cases hlw:row.length=wd
 ·have hlw2:((row.length:Int)==(wd:Int))=true:=by rw [hlw,beq_self_eq_true]
  have HLw:=hid hlw
  have HMt:Hid (∀c,c≠0→Calls Tryz.prog 46 #[.pointer (some ⟨ii.rb,0,none⟩),.bool true,.int .i64 c] wc fun e w'=>e=.returned (.tuple #[])∧wc=w'):=hid (fun c hc=>(HMu.out wc true c HB5.out hc).mono (by
   rintro e w' ⟨⟨-,rfl⟩ | ⟨hx,-⟩,rfl⟩
   ·exact⟨rfl,rfl⟩
   cases hx))
  have c4:=HM5.out.1.heads
  obtain⟨hbd5,v5,hm5⟩:=HM5.out
  have r4:=hm5.r4
  have hlk5:=fun x=>(hm5.below (drewN_below (w:=wc) x)).seen.look (fieldAt row 0) hs0
  obtain⟨q,hq⟩:∃q,S2.heads.count (fieldAt row 0)=q:=⟨_,rfl⟩
  have HQ:=hid hq
  rw [hq] at hlk5
  have HSh:Hid (S2.heads=S.heads):=hid (by rw [←HS2.out])
  clear hm5 hbd5 hq hlw
  go_upto_region 14 with (go_at_call 46;refine (HMt.out _ (by decide)).mono ?_;rintro e w9 ⟨rfl,rfl⟩)
  by_cases htw:wd=2∧q≠0
  ·have HX:Hid (affR s.data.toList=.error (l,112)):=hid (by
    have hc:S.heads.contains (fieldAt row 0)=true:=by
     rw [List.contains_iff_mem]
     apply Classical.byContradiction
     intro hn
     exact htw.2 (by rw [←HQ.out,HSh.out];exact List.count_eq_zero.2 hn)
    rw [HAff.out,HRs.out,stepR,if_neg hk13,HK.out,HWd.out,if_neg (by rw [HLw.out];simp),if_pos ⟨htw.1,hc⟩];rfl)
   obtain⟨rfl,hq0⟩:=htw
   have hqe:((q:Int)==0)=false:=by rw [beq_eq_false_iff_ne];omega
   have hl1:(Instr.lookup 117 (.map (some ii.sb)) (.string (fieldAt row 0)) false).run Tryz.prog wc.drew=.ok (.int .i64 (q:Int)) wc.drew:=hlk5 1
   have HS14:Hid (∀W,Below wc.heap.size wc W→W.cell? ⟨ii.rb,4,none⟩=some (.map (some ii.sb))∧W.cell? ⟨g1,o1,none⟩=some (.string (fieldAt row 0))∧W.cell? ⟨hb,0,none⟩=some (.int .i64 2)):=hid (fun W hW=>⟨(hW.cell (block_lt_of_cell? _ _ r4)).trans r4,(hW.cell (block_lt_of_cell? _ _ d5)).trans d5,(hW.cell (block_lt_of_cell? _ _ hh0)).trans hh0⟩)
   clear hlk5 hq0 hk13
   refine Code.wp_mono (PanicF.imp (bb:=w.heap.size) (eb:=w.heap.size+1) (K:=fun ch W=>ch=[flt l 112]∧Below wc.heap.size wc W) ?_) ?_
   ·rintro ch tmps W h2 h3 ⟨rfl,hk⟩
    exact read_fault HF2.out HB.out (HBs.out _ (HB5.out.trans (hk.mono HB5.out.size))) HX.out h2 h3
   refine wp_region_held_drew (S:=fun W'=>W'.cell? ⟨ii.rb,4,none⟩=some (.map (some ii.sb))∧W'.cell? ⟨g1,o1,none⟩=some (.string (fieldAt row 0))∧W'.cell? ⟨hb,0,none⟩=some (.int .i64 2)) (by kernel_rfl) ?_ (fun hHeld=>?_)
   ·exact HS14.out _ drew_below
   refine tkA 0 (some 80) hHeld ?_ (hQ:=fun _ _ _ h=>PanicF.put (by decide) h);try simp only [put_norm]
   refine tkA 1 (some 81) hHeld ?_ (hQ:=fun _ _ _ h=>PanicF.put (by decide) h);try simp only [put_norm]
   refine tkA 2 (some 82) hHeld ?_ (hQ:=fun _ _ _ h=>PanicF.put (by decide) h);try simp only [put_norm]
   refine tkA 3 (some 83) hHeld ?_ (hQ:=fun _ _ _ h=>PanicF.put (by decide) h);try simp only [put_norm]
   refine tkA 4 (some 84) hHeld ?_ (hQ:=fun _ _ _ h=>PanicF.put (by decide) h);try simp only [put_norm]
   refine tkA 5 (some 85) hHeld ?_ (hQ:=fun _ _ _ h=>PanicF.put (by decide) h);try simp only [put_norm]
   refine tkA 6 (some 86) hHeld ?_ (hQ:=fun _ _ _ h=>PanicF.put (by decide) h);try simp only [put_norm]
   refine tkA 7 (some 87) hHeld ?_ (hQ:=fun _ _ _ h=>PanicF.put (by decide) h);try simp only [put_norm]
   refine tkA 8 (some 88) hHeld ?_ (hQ:=fun _ _ _ h=>PanicF.put (by decide) h);try simp only [put_norm]
   refine tkA 9 (some 89) hHeld ?_ (hQ:=fun _ _ _ h=>PanicF.put (by decide) h);try simp only [put_norm]
   refine tkA 10 (some 90) hHeld ?_ (hQ:=fun _ _ _ h=>PanicF.put (by decide) h);try simp only [put_norm]
   refine tkA 11 (some 91) hHeld ?_ (hQ:=fun _ _ _ h=>PanicF.put (by decide) h);try simp only [put_norm]
   refine rdy1 12 (fun K hK=>?_)
   go_simp
   refine hK.out _ _ ?_ (fun hHeld=>?_)
   ·first | exact HS14.out _ drew_below
   clear hK K
   refine tkA 13 (some 93) hHeld ?_ (hQ:=fun _ _ _ h=>PanicF.put (by decide) h);try simp only [put_norm]
   refine tkA 14 (some 94) hHeld ?_ (hQ:=fun _ _ _ h=>PanicF.put (by decide) h);try simp only [put_norm]
   refine rdy1 15 (fun K hK=>?_)
   go_simp
   refine (HMu.out _ false 112 (HB5.out.trans (drew_below.mono HB5.out.size)) (by decide)).mono ?_
   rintro e w9 ⟨⟨hx,-⟩ | ⟨-,rfl⟩,rfl⟩
   ·exact absurd hx (by simp)
   exact⟨rfl,rfl,rfl,rfl,drew_below⟩
  go_cut [] from 80 to 95 (fun W=>Hid (Below wc.heap.size wc W))
  case first =>
   have HS14:Hid (∀W,Below wc.heap.size wc W→W.cell? ⟨ii.rb,4,none⟩=some (.map (some ii.sb))∧W.cell? ⟨g1,o1,none⟩=some (.string (fieldAt row 0))∧W.cell? ⟨hb,0,none⟩=some (.int .i64 (wd:Int))):=hid (fun W hW=>⟨(hW.cell (block_lt_of_cell? _ _ r4)).trans r4,(hW.cell (block_lt_of_cell? _ _ d5)).trans d5,(hW.cell (block_lt_of_cell? _ _ hh0)).trans hh0⟩)
   have hl1:(Instr.lookup 117 (.map (some ii.sb)) (.string (fieldAt row 0)) false).run Tryz.prog wc.drew=.ok (.int .i64 (q:Int)) wc.drew:=hlk5 1
   clear hlk5
   rcases HW2.out with ⟨h2,-⟩ | ⟨h4,-⟩
   ·obtain rfl:q=0:=by
     apply Classical.byContradiction
     intro h;exact htw ⟨h2,h⟩
    subst h2
    clear htw
    refine Code.wp_mono (PanicF.imp (bb:=w.heap.size) (eb:=w.heap.size+1) (K:=fun _ _=>False) (fun _ _ _ _ _ h=>h.elim)) ?_
    refine wp_region_held_drew (S:=fun W'=>W'.cell? ⟨ii.rb,4,none⟩=some (.map (some ii.sb))∧W'.cell? ⟨g1,o1,none⟩=some (.string (fieldAt row 0))∧W'.cell? ⟨hb,0,none⟩=some (.int .i64 2)) (by kernel_rfl) ?_ (fun hHeld=>?_)
    ·exact HS14.out _ drew_below
    refine tkA 0 (some 80) hHeld ?_ (hQ:=fun _ _ _ h=>PanicF.put (by decide) h);try simp only [put_norm]
    refine tkA 1 (some 81) hHeld ?_ (hQ:=fun _ _ _ h=>PanicF.put (by decide) h);try simp only [put_norm]
    refine tkA 2 (some 82) hHeld ?_ (hQ:=fun _ _ _ h=>PanicF.put (by decide) h);try simp only [put_norm]
    refine tkA 3 (some 83) hHeld ?_ (hQ:=fun _ _ _ h=>PanicF.put (by decide) h);try simp only [put_norm]
    refine tkA 4 (some 84) hHeld ?_ (hQ:=fun _ _ _ h=>PanicF.put (by decide) h);try simp only [put_norm]
    refine tkA 5 (some 85) hHeld ?_ (hQ:=fun _ _ _ h=>PanicF.put (by decide) h);try simp only [put_norm]
    refine tkA 6 (some 86) hHeld ?_ (hQ:=fun _ _ _ h=>PanicF.put (by decide) h);try simp only [put_norm]
    refine tkA 7 (some 87) hHeld ?_ (hQ:=fun _ _ _ h=>PanicF.put (by decide) h);try simp only [put_norm]
    refine tkA 8 (some 88) hHeld ?_ (hQ:=fun _ _ _ h=>PanicF.put (by decide) h);try simp only [put_norm]
    refine tkA 9 (some 89) hHeld ?_ (hQ:=fun _ _ _ h=>PanicF.put (by decide) h);try simp only [put_norm]
    refine tkA 10 (some 90) hHeld ?_ (hQ:=fun _ _ _ h=>PanicF.put (by decide) h);try simp only [put_norm]
    refine tkA 11 (some 91) hHeld ?_ (hQ:=fun _ _ _ h=>PanicF.put (by decide) h);try simp only [put_norm]
    refine rdy1 12 (fun K hK=>?_)
    go_simp
    refine hK.out _ _ ?_ (fun hHeld=>?_)
    ·first | exact HS14.out _ drew_below
    clear hK K
    refine tkA 13 (some 93) hHeld ?_ (hQ:=fun _ _ _ h=>PanicF.put (by decide) h);try simp only [put_norm]
    refine tkA 14 (some 94) hHeld ?_ (hQ:=fun _ _ _ h=>PanicF.put (by decide) h);try simp only [put_norm]
    refine rdy1 15 (fun K hK=>?_)
    go_simp
    refine (HMu.out _ true 112 (HB5.out.trans (drew_below.mono HB5.out.size)) (by decide)).mono ?_
    rintro e w9 ⟨⟨-,rfl⟩ | ⟨hx,-⟩,rfl⟩
    rotate_left
    ·cases hx
    refine hK.out _ _ ?_ (fun hHeld=>?_)
    ·exact HS14.out _ drew_below
    clear hK K
    refine wpAnyH_done (by kernel_rfl) ?_ _
    simp only [PanicF]
    go_wp2_with fail
    go_meet
    exact hid drew_below
   subst h4
   clear htw
   refine Code.wp_mono (PanicF.imp (bb:=w.heap.size) (eb:=w.heap.size+1) (K:=fun _ _=>False) (fun _ _ _ _ _ h=>h.elim)) ?_
   refine wp_region_held_drew (S:=fun W'=>W'.cell? ⟨ii.rb,4,none⟩=some (.map (some ii.sb))∧W'.cell? ⟨g1,o1,none⟩=some (.string (fieldAt row 0))∧W'.cell? ⟨hb,0,none⟩=some (.int .i64 4)) (by kernel_rfl) ?_ (fun hHeld=>?_)
   ·exact HS14.out _ drew_below
   refine tkA 0 (some 80) hHeld ?_ (hQ:=fun _ _ _ h=>PanicF.put (by decide) h);try simp only [put_norm]
   refine tkA 1 (some 81) hHeld ?_ (hQ:=fun _ _ _ h=>PanicF.put (by decide) h);try simp only [put_norm]
   refine tkA 2 (some 82) hHeld ?_ (hQ:=fun _ _ _ h=>PanicF.put (by decide) h);try simp only [put_norm]
   refine tkA 3 (some 83) hHeld ?_ (hQ:=fun _ _ _ h=>PanicF.put (by decide) h);try simp only [put_norm]
   refine tkA 4 (some 84) hHeld ?_ (hQ:=fun _ _ _ h=>PanicF.put (by decide) h);try simp only [put_norm]
   refine tkU 5 (some 85) hHeld ?_ (hQ:=fun _ _ _ h=>PanicF.put (by decide) h);try simp only [put_norm]
   refine tkU 6 (some 86) hHeld ?_ (hQ:=fun _ _ _ h=>PanicF.put (by decide) h);try simp only [put_norm]
   refine tkU 7 (some 87) hHeld ?_ (hQ:=fun _ _ _ h=>PanicF.put (by decide) h);try simp only [put_norm]
   refine tkU 8 (some 88) hHeld ?_ (hQ:=fun _ _ _ h=>PanicF.put (by decide) h);try simp only [put_norm]
   refine tkU 9 (some 89) hHeld ?_ (hQ:=fun _ _ _ h=>PanicF.put (by decide) h);try simp only [put_norm]
   refine tkU 10 (some 90) hHeld ?_ (hQ:=fun _ _ _ h=>PanicF.put (by decide) h);try simp only [put_norm]
   refine tkU 11 (some 91) hHeld ?_ (hQ:=fun _ _ _ h=>PanicF.put (by decide) h);try simp only [put_norm]
   refine tkU 12 (some 92) hHeld ?_ (hQ:=fun _ _ _ h=>PanicF.put (by decide) h);try simp only [put_norm]
   refine tkU 13 (some 93) hHeld ?_ (hQ:=fun _ _ _ h=>PanicF.put (by decide) h);try simp only [put_norm]
   refine tkA 14 (some 94) hHeld ?_ (hQ:=fun _ _ _ h=>PanicF.put (by decide) h);try simp only [put_norm]
   refine rdy1 15 (fun K hK=>?_)
   go_simp
   refine (HMu.out _ true 112 (HB5.out.trans (drew_below.mono HB5.out.size)) (by decide)).mono ?_
   rintro e w9 ⟨⟨-,rfl⟩ | ⟨hx,-⟩,rfl⟩
   rotate_left
   ·cases hx
   refine hK.out _ _ ?_ (fun hHeld=>?_)
   ·exact HS14.out _ drew_below
   clear hK K
   refine wpAnyH_done (by kernel_rfl) ?_ _
   simp only [PanicF]
   go_wp2_with fail
   go_meet
   exact hid drew_below
  case rest =>
  have HB6:=hcut
  clear hcut hlk5
  have HM6:=hid (HM5.out.below HB6.out)
  have HDB6:=hid (HDB5.out.go (Go2.of_below HB6.out))
  have hh6:=(HB6.out.cell (block_lt_of_cell? _ _ hh1)).trans hh1
  have HHF:Hid (Calls Tryz.prog fn #[.pointer (some ⟨ii.rb,0,none⟩),.slice (some ⟨g1,o1,none⟩) row.length cv1] wc (HeadP w2 L ii EE (0+1) 0 (headR EE S2 row k) wc)):=hid (by
   rw [←HFn.out]
   refine so_head w2 L ii EE (0+1) 0 S2 _ row m0 k wc HM6.out HRw.out HM2.out hkl HKey.out (by rw [HLw.out,HWd.out]) (fun j hj hj5=>?_)
   have h2:wd=2:=by
    rcases HW2.out with ⟨h2,-⟩ | ⟨-,h4⟩
    ·exact h2
    omega
   have hq0:q=0:=Classical.byContradiction (fun h=>htw ⟨h2,h⟩)
   have hn:fieldAt row 0∉S.heads:=by
    rw [←HSh.out]
    exact List.count_eq_zero.1 (by rw [HQ.out,hq0])
   have:=HSp3.out hn j hj5 (by rw [HK.out,hj])
   rw [←HS2.out];exact this)
  have HStp:Hid (stepR EE S l row rest=match headR EE S2 row k with
   | .error e=>.error e
   | .ok S'=>.ok { S' with heads:=S'.heads++[fieldAt row 0] }):=hid (by
   have hnt:¬(widthN k=2∧S.heads.contains (fieldAt row 0)=true):=by
    rintro⟨h2,hc⟩
    rw [HWd.out] at h2
    refine htw ⟨h2,fun h=>?_⟩
    rw [List.contains_iff_mem,←HSh.out] at hc
    exact List.count_eq_zero.1 (by rw [HQ.out,h]) hc
   rw [stepR,if_neg hk13,HK.out,if_neg (by rw [HLw.out,HWd.out];simp),if_neg hnt,HS2.out]
   rcases headR EE S2 row k with e | S'<;>rfl)
  have hen:∀args W,(callFunc fn args).run Tryz.prog W=.ok (.enter fn args) W:=fun args W=>by rw [←HFn.out];exact enter_hd k hkl args W
  clear hk13 htw r4 d5 hh0 hh1
  unfold HeadP at HHF
  cases hhr:headR EE S2 row k with
  | error p =>
   obtain⟨pl,pc⟩:=p
   have HX:Hid (affR s.data.toList=.error (pl,pc)):=hid (by rw [HAff.out,HRs.out,HStp.out,hhr];rfl)
   rw [hhr] at HHF
   clear hhr
   go_wp2_with fail
   refine HHF.out.mono ?_
   rintro e w9 ⟨L9,hg9,rfl⟩
   exact read_fault HF2.out HB.out (HM6.out.go_base hg9) HX.out rfl rfl
  | ok S3 =>
   have HR3:Hid (R=readGo EE g { S3 with heads:=S3.heads++[fieldAt row 0] }):=hid (by rw [HRs.out,HStp.out,hhr])
   have HSp4:=hid (HSp2.out { S3 with heads:=S3.heads++[fieldAt row 0] } (by rw [HStp.out,hhr]))
   have hrw:=head_rows hhr
   have hr2:S2.rows.length=rest.length:=by rw [←HS2.out]
   rw [hr2] at hrw
   rw [hhr] at HHF
   clear hhr
   go_upto_region 16 with (refine HHF.out.mono ?_;rintro e w7 ⟨L7,hg7,rfl,hm7⟩;have HG7:=hid hg7;have HM7:=hid hm7;clear hg7 hm7)
   obtain⟨hbd7,v7,hm7⟩:=HM7.out
   have r4:=hm7.r4
   have d7:=(hm7.base.cell (block_lt_of_cell? _ _ HD0.out)).trans HD0.out
   have hh7:=hbd7.heads
   obtain⟨q3,hq3⟩:∃q,S3.heads.count (fieldAt row 0)=q:=⟨_,rfl⟩
   have hq3l:q3≤S3.heads.length:=by rw [←hq3];exact List.count_le_length
   have hlk7:=(hm7.below (drew_below (w:=w7))).seen.look (fieldAt row 0) hs0
   rw [hq3] at hlk7
   obtain⟨w8,hst,hcn,hkp⟩:=(hm7.below (drew_below (w:=w7))).seen.store (fieldAt row 0) hs0 ((q3:Int)+1) (by omega) (by omega)
   have hcn2:CntS w8 ii.sb ({ S3 with heads:=S3.heads++[fieldAt row 0] }:Sx).heads.length (fun t=>((({ S3 with heads:=S3.heads++[fieldAt row 0] }:Sx).heads.count t:Nat):Int)):=by
    have e1:(fun t=>if t=fieldAt row 0 then (q3:Int)+1 else ((S3.heads.count t:Nat):Int))=fun t=>(((S3.heads++[fieldAt row 0]).count t:Nat):Int):=by
     funext t
     rw [List.count_append]
     by_cases ht:t=fieldAt row 0
     ·subst ht
      rw [if_pos rfl,hq3,List.count_singleton_self];omega
     rw [if_neg ht,(List.count_eq_zero (l:=[fieldAt row 0]) (a:=t)).2 (by rw [List.mem_singleton];exact ht)];omega
    show CntS w8 ii.sb (S3.heads++[fieldAt row 0]).length _
    rw [List.length_append]
    rw [e1] at hcn
    exact hcn
   have HM8:Hid (RM w2 w8 L7 ii EE 0 0 { S3 with heads:=S3.heads++[fieldAt row 0] }):=hid ⟨Bd.pushHead hbd7 _ (by
    have:=HRw.out.each (fieldAt row 0) (by
     unfold fieldAt
     rw [List.getD,List.getElem?_eq_getElem hrl0]
     exact List.getElem_mem hrl0)
    exact this),v7,(hm7.below drew_below).setSeen hkp hcn2 rfl rfl rfl⟩
   have HG8:=hid (show Go2 L7 w7 L7 w8 from (Go2.of_below drew_below).trans ⟨hkp.mono (by intro x hx;simp at hx;subst hx;exact hm7.sbL),fun x hx=>.inl hx⟩)
   have HDB8:=hid ((HDB6.out.go HG7.out).go HG8.out)
   have hwr8:IntKind.i64.wrap ((q3:Int)+1)=(q3:Int)+1:=by rw [IntKind.wrap_i64];omega
   have hrw2:({ S3 with heads:=S3.heads++[fieldAt row 0] }:Sx).rows.length≤g:=by show S3.rows.length≤g;omega
   have HRw2:=hid hrw2
   clear hm7 hbd7 hkp hcn hcn2 hq3 hrw2
   go_wp2_with fail
   go_region
   all_goals go_wp2_with fail
   all_goals go_roundg g
   case measure=>omega
   case rel=>exact⟨{ S3 with heads:=S3.heads++[fieldAt row 0] },L7,HRw2.out,HM8,HDB8,HSp4,hid HR3.out.symm⟩
 have HX:Hid (affR s.data.toList=.error (l,111)):=hid (by rw [HAff.out,HRs.out,stepR,if_neg hk13,HK.out,HWd.out,if_pos hlw];rfl)
 have hlw2:((row.length:Int)==(wd:Int))=false:=by rw [beq_eq_false_iff_ne];omega
 clear hlw hk13
 go_upto_region 13 with (go_at_call 46;refine (HMu.out _ true 110 HB5.out (by decide)).mono ?_;rintro e w9 ⟨⟨-,rfl⟩ | ⟨hx,-⟩,rfl⟩)
 go_wp2_with fail
 refine (HMu.out _ _ _ HB5.out (by decide)).mono ?_
 rintro e w9 ⟨⟨hx,-⟩ | ⟨-,rfl⟩,rfl⟩
 ·exact absurd hx (by simp)
 exact read_fault HF2.out HB.out (HBs.out _ HB5.out) HX.out rfl rfl
theorem qrls_at:∀(rs:List (Rl×Value)) (k:Nat) (hk:k < rs.length),(qrls rs)[k*8]?=some (.int .i64 rs[k].1.kind)∧(qrls rs)[k*8+1]?=some (.int .i64 rs[k].1.flag)∧(qrls rs)[k*8+2]?=some (.bool rs[k].1.cross)∧(qrls rs)[k*8+3]?=some (.string rs[k].1.strip)∧(qrls rs)[k*8+4]?=some (.string rs[k].1.add)∧(qrls rs)[k*8+5]?=some (.string rs[k].1.cond)∧(qrls rs)[k*8+6]?=some rs[k].2∧(qrls rs)[k*8+7]?=some (.int .i64 rs[k].1.line)
 | [],_,hk=>absurd hk (Nat.not_lt_zero _)
 | c::r,0,_=>⟨rfl,rfl,rfl,rfl,rfl,rfl,rfl,rfl⟩
 | c::r,k+1,hk=>by
   have:=qrls_at r k (by simpa using hk)
   have e:qrls (c::r)=[.int .i64 c.1.kind,.int .i64 c.1.flag,.bool c.1.cross,.string c.1.strip,.string c.1.add,.string c.1.cond,c.2,.int .i64 c.1.line]++qrls r:=by simp [qrls]
   have key:∀j,(qrls (c::r))[(k+1)*8+j]?=(qrls r)[k*8+j]?:=fun j=>by
    rw [e,List.getElem?_append_right (by simp;omega)]
    congr 1
    simp;omega
   exact⟨(key 0).trans this.1,(key 1).trans this.2.1,(key 2).trans this.2.2.1,(key 3).trans this.2.2.2.1,(key 4).trans this.2.2.2.2.1,(key 5).trans this.2.2.2.2.2.1,(key 6).trans this.2.2.2.2.2.2.1,(key 7).trans this.2.2.2.2.2.2.2⟩
def QFileAt (w:World) (rf:Nat) (F:Fl):Prop:=∃v:Qs,w.heap[rf]?=some (.cells (qfile v F) 48 (0,0))∧Rd w 2 v.reps F.reps.length (repCells F.reps) ∧
 (∃us:List Value,Rd w 1 v.als F.als.length us∧us.length=F.als.length∧∀(k:Nat) u b,us[k]?=some u→F.als[k]?=some b→IS w u b)∧Rd w 5 v.cls F.cls.length (qcls F.cls) ∧
 ∃rs:List (Rl×Value),rs.map (·.1)=F.rls∧Rd w 8 v.rls rs.length (qrls rs)∧∀r∈rs,IS w r.2 r.1.next
theorem QFileAt.keep {w w':World} {rf:Nat} {F:Fl} (h:QFileAt w rf F) (hb:Below w.heap.size w w'):QFileAt w' rf F:=by
 obtain⟨v,h1,h2,⟨us,h3,h4,h5⟩,h6,rs,h7,h8,h9⟩:=h
 exact⟨v,(hb.block _ (block_lt h1)).trans h1,h2.keep hb,⟨us,h3.keep hb,h4,fun k u b hu hb'=>(h5 k u b hu hb').keep hb⟩,h6.keep hb,rs,h7,h8.keep hb,fun r hr=>(h9 r hr).keep hb⟩
theorem QM.fileAt {w0 w:World} {L:List Nat} {rr rf a:Nat} {v:Qs} {E:Int} {all:List Row} {S:Sx} (h:QM w0 w L rr rf v E all a S):QFileAt w rf S.fl:=by
 obtain⟨us,h1,h2,h3⟩:=h.als
 obtain⟨rs,h4,h5,h6⟩:=h.rls
 exact⟨v,h.file,Rd.of_own h.reps.1,⟨us,Rd.of_own h1.1,h2,fun k u a hu ha=>(h3 k u a hu ha).is⟩,Rd.of_own h.cls.1,rs,h4,Rd.of_own h5.1,fun r hr=>(h6 r hr).is⟩
def RefP (l:List UInt8) (w:World) (e:Ending) (w':World):Prop:=Below w.heap.size w w'∧match affR l with
 | .error p=>e=.returned (.tuple #[.pointer none,.int .i64 p.1,.int .i64 p.2])
 | .ok F=>∃rf,e=.returned (.tuple #[.pointer (some ⟨rf,0,none⟩),.int .i64 0,.int .i64 0])∧QFileAt w' rf F∧FlOk F∧w.heap.size≤rf
theorem RefP.bad {l:List UInt8} {w w':World} {line c:Int} (ha:affR l=.error (line,c)) (hb:Below w.heap.size w w'):RefP l w (.returned (.tuple #[.pointer none,.int .i64 line,.int .i64 c])) w':=⟨hb,by rw [ha]⟩
theorem RefP.good {l:List UInt8} {w w':World} {F:Fl} {rf:Nat} (ha:affR l=.ok F) (hb:Below w.heap.size w w') (hf:QFileAt w' rf F) (hk:FlOk F) (hr:w.heap.size≤rf):RefP l w (.returned (.tuple #[.pointer (some ⟨rf,0,none⟩),.int .i64 0,.int .i64 0])) w':=⟨hb,by rw [ha];exact⟨rf,rfl,hf,hk,hr⟩⟩
def qs0 (rv:Value):Qs:=⟨rv,.slice none 0 0,.slice none 0 0,.slice none 0 0,.slice none 0 0,.slice none 0 0⟩
theorem QM.start (w:World) (rv:Value) (E:Int) (rows:List Row) (hr:RowsM w rv rows):QM w ((w.alloc (.cells #[.int .i64 1,.string ⟨#[]⟩,.string ⟨#[]⟩,.int .i64 0,.int .i64 0,.int .i64 0,.int .i64 0,.int .i64 0,.int .i64 3,.slice none 0 0,.slice none 0 0,.slice none 0 0,.slice none 0 0] 48)).alloc (.cells #[.pointer (some ⟨w.heap.size,0,none⟩),rv,.int .i64 0,.int .i64 E,.slice none 0 0,.int .i64 0] 186))
  [w.heap.size,w.heap.size+1] (w.heap.size+1) w.heap.size (qs0 rv) E rows 0 ⟨fl0,rows,[],0⟩:=by
 obtain⟨w1,hw1⟩:∃W,w.alloc (.cells #[.int .i64 1,.string ⟨#[]⟩,.string ⟨#[]⟩,.int .i64 0,.int .i64 0,.int .i64 0,.int .i64 0,.int .i64 0,.int .i64 3,.slice none 0 0,.slice none 0 0,.slice none 0 0,.slice none 0 0] 48)=W:=⟨_,rfl⟩
 have s1:w1.heap.size=w.heap.size+1:=by rw [←hw1];simp
 have b1:Below w.heap.size w w1:=by rw [←hw1];exact (Below.refl _ _).alloc (Nat.le_refl _) _
 have f1:w1.heap[w.heap.size]?=some (.cells #[.int .i64 1,.string ⟨#[]⟩,.string ⟨#[]⟩,.int .i64 0,.int .i64 0,.int .i64 0,.int .i64 0,.int .i64 0,.int .i64 3,.slice none 0 0,.slice none 0 0,.slice none 0 0,.slice none 0 0] 48 (0,0)):=by rw [←hw1];exact heap_alloc_new w _
 rw [hw1]
 obtain⟨w2,hw2⟩:∃W,w1.alloc (.cells #[.pointer (some ⟨w.heap.size,0,none⟩),rv,.int .i64 0,.int .i64 E,.slice none 0 0,.int .i64 0] 186)=W:=⟨_,rfl⟩
 have s2:w2.heap.size=w.heap.size+1+1:=by rw [←hw2];simp [s1]
 have b2:Below w1.heap.size w1 w2:=by rw [←hw2];exact (Below.refl _ _).alloc (Nat.le_refl _) _
 have f2:w2.heap[w.heap.size+1]?=some (.cells #[.pointer (some ⟨w.heap.size,0,none⟩),rv,.int .i64 0,.int .i64 E,.slice none 0 0,.int .i64 0] 186 (0,0)):=by rw [←hw2,←s1];exact heap_alloc_new w1 _
 rw [hw2]
 refine⟨b1.trans (b2.mono (by omega)),?_,by simp,by simp,f2,(b2.block _ (by omega)).trans f1,hr,OwnL.nil_ _ _ _ _,OwnL.nil_ _ _ _ _,⟨[],OwnL.nil_ _ _ _ _,rfl,fun k u a hu=>by simp at hu⟩,OwnL.nil_ _ _ _ _,⟨[],rfl,OwnL.nil_ _ _ _ _,fun r hr=>by cases hr⟩⟩
 intro x hx;simp at hx;omega
theorem wdQ_no {s:ByteArray} (h:keyN s=13):wdQ s=0:=by unfold wdQ;rw [if_pos h]
theorem wdQ_key {s:ByteArray} {k:Nat} (h:keyN s=k) (hk:k < 13):wdQ s=(widthN k:Nat):=by unfold wdQ;rw [if_neg (by omega),h]
theorem so_refAff (s:ByteArray) (w:World):Calls Tryz.prog 71 #[.string s] w (RefP s.data.toList w):=by
 obtain⟨i0,hi,hz0,hz1,hz2⟩:=info_parts str_info
 have HRows:=hid (Rows01_any s w)
 by_cases hbig:65536 < s.size
 ·have HX:Hid (affR s.data.toList=.error (0,10)):=hid (by rw [affR,if_pos (by rw [len_toList];exact hbig)])
  unfold codeS at HRows
  rw [if_pos hbig] at HRows
  go_enter Tryz.func71,Tryz.ntmps71
  go_wp2_with (go_at_call 97;refine HRows.out.mono ?_;rintro e w1 ⟨v,rs,rfl,how,hrr,habs⟩;have HB1:=hid how.below;clear how hrr habs)
  go_ret3
  exact .bad HX.out HB1.out
 have hcode:codeS s=0:=by unfold codeS;rw [if_neg hbig]
 rw [hcode] at HRows
 have HL:Hid (∀W,Calls Tryz.prog 98 #[.string s] W fun e w'=>∃v,e=.returned v∧Own W w' 9 1 v (linesOf s.data.toList).length (strV ((linesOf s.data.toList).map mkS))):=hid (fun W=>Lines01_any s W (by omega))
 obtain⟨nE,hnE⟩:∃n,(linesOf s.data.toList).length=n:=⟨_,rfl⟩
 have hnE2:nE≤65536:=by
  have:=eachOf_len s.data.toList
  rw [eachOf,if_neg (by rw [len_toList];exact hbig),numbered_len,hnE] at this
  exact this
 rw [hnE] at HL
 obtain⟨R,hR⟩:∃R,readGo ((nE:Int)+1) (rowsOf (eachOf s.data.toList)).length ⟨fl0,rowsOf (eachOf s.data.toList),[],0⟩=R:=⟨_,rfl⟩
 have HAff:Hid (affR s.data.toList=affEnd R):=hid (by
  rw [affR_small _ (by rw [len_toList];exact hbig),hnE,hR])
 have HBd0:=hid (Bd.start s.data.toList)
 have HR:=hid hR
 have hwr:IntKind.i64.wrap ((nE:Int)+1)=(nE:Int)+1:=by rw [IntKind.wrap_i64];omega
 clear hR hnE hcode hbig
 go_enter Tryz.func71,Tryz.ntmps71
 go_upto_region 4 with (go_at_call 97;refine HRows.out.mono ?_;rintro e w1 ⟨v,rs,rfl,how,hrr,habs⟩;have HOw:=hid how;have HRr:=hid hrr;have HAbs:=hid habs;clear how hrr habs)
 obtain⟨Av,cpv,rfl⟩:=own_slice HOw.out.own
 go_upto_region 5 with (go_at_call 98;refine (HL.out _).mono ?_;rintro e w2 ⟨v2,rfl,how2⟩;obtain⟨A2,cp2,rfl⟩:=own_slice how2.own;have HB2:=hid how2.below;clear how2)
 have HB:Hid (Below w.heap.size w w2):=hid (HOw.out.below.trans (HB2.out.mono HOw.out.below.size))
 obtain⟨all,hall⟩:∃l,rowsOf (eachOf s.data.toList)=l:=⟨_,rfl⟩
 have HRows2:Hid (RowsM w2 (.slice Av rs.length cpv) all):=hid ⟨rs,by rw [HAbs.out,hall],Rd.of_own (own_below HOw.out.own HB2.out),fun r hr=>(HRr.out r hr).keep HB2.out⟩
 have hrl:rs.length=all.length:=by have h:=congrArg List.length HAbs.out;rw [hall] at h;simpa [rowAbs] using h
 rw [hall] at HR HBd0
 rw [hrl] at HRows2 ⊢
 obtain⟨N,hN⟩:∃n,all.length=n:=⟨_,rfl⟩
 have hN2:N≤65536:=by rw [←hN,←hall];exact rows_le _
 rw [hN] at HR HRows2 ⊢
 have HNn:=hid hN
 clear hall hrl hN HOw HRr HAbs HB2 HL HRows
 go_cut [8] from 28 to 35 (fun p W=>p=.pointer (some ⟨w2.heap.size+1,0,none⟩)∧Hid (QM w2 W [w2.heap.size,w2.heap.size+1] (w2.heap.size+1) w2.heap.size (qs0 (.slice Av N cpv)) ((nE:Int)+1) all 0 ⟨fl0,all,[],0⟩))
 case first =>
  have HSt:=hid (QM.start w2 (.slice Av N cpv) ((nE:Int)+1) all HRows2.out)
  go_wp2_with fail
  all_goals go_meet
  all_goals exact⟨rfl,HSt⟩
 case rest =>
 obtain⟨rfl,HSt⟩:=hcut
 obtain⟨rr,hrr⟩:∃n,w2.heap.size+1=n:=⟨_,rfl⟩
 obtain⟨rf,hrf⟩:∃n,w2.heap.size=n:=⟨_,rfl⟩
 have HRf:Hid (w.heap.size≤rf):=hid (by rw [←hrf];exact HB.out.size)
 obtain⟨EE,hEE⟩:∃e,(nE:Int)+1=e:=⟨_,rfl⟩
 rw [hrr,hrf,hEE] at HSt
 rw [hEE] at HR
 rw [hrr]
 have HRQ0:Hid (RQ w2 wc [rf,rr] rr rf EE all 0 0 ⟨fl0,all,[],0⟩):=hid ⟨HBd0.out,_,0,⟨by simp,rfl⟩,HSt.out⟩
 clear HSt hrr hrf hEE hwr HBd0
 go_wp2_with fail
 go_loopg [6,9,10,11] N (fun g _ _ _ _ wr=>∃(S:Sx) (L:List Nat),S.rows.length≤g∧Hid (RQ w2 wr L rr rf EE all 0 0 S)∧Hid (readGo EE g S=R))
 case atStart=>exact⟨_,_,Nat.le_of_eq HNn.out,HRQ0,HR⟩
 case round =>
 obtain⟨S,L,hg,HRQ,HGo⟩:=hrel
 clear HRQ0 HR
 obtain⟨hbd,v,a,hpa,hqm⟩:=HRQ.out
 have c2:=hqm.r2
 rcases hrows:S.rows with _ | ⟨⟨l,row⟩,rest⟩
 ·have HRe:Hid (R=.ok S):=hid (by
   rw [←HGo.out]
   rcases gk with _ | g
   ·rfl
   rw [readGo,hrows])
  have haN:a=N:=by have:=hpa.1;rw [hrows] at this;rw [HNn.out] at this;simpa using this
  subst haN
  obtain⟨wo,rfl⟩:∃wo:World,wo=wr:=⟨_,rfl⟩
  have c0:=hqm.r0
  have hn:∃n,S.fl.rls.length=n:=⟨_,rfl⟩
  obtain⟨n,hn⟩:=hn
  obtain⟨rs,hrs1,hrs2,hrs3⟩:=hqm.rls
  have hlr:rs.length=n:=by rw [←hn,←hrs1];simp
  have hn2:n≤65536:=by have:=hbd.rls;omega
  obtain⟨AR,cpR,hvR⟩:=own_slice hrs2.1
  rw [hlr] at hvR
  have c12:wo.cell? ⟨rf,12,none⟩=some (.slice AR n cpR):=by rw [hqm.fc 12,←hvR];rfl
  have HRd:=hid (Rd.of_own hrs2.1)
  have HRs1:=hid hrs1
  have HIs:Hid (∀r∈rs,IS wo r.2 r.1.next):=hid (fun r hr=>(hrs3 r hr).is)
  have HLr:=hid hlr
  have HV:=hid hvR
  have HNr:=hid hn
  have HM:=hid hqm
  have HBd:=hid hbd
  have hrfl:=block_lt hqm.file
  have hcl3:S.fl.cls.length≤65536:=by have h1:=hbd.cls;omega
  clear hrows hbd hpa hqm hrs1 hrs2 hrs3 hlr hvR hn hg
  go_wp2_with fail
  go_loopw [13,14,15,16,17] (fun x _ _ _ _ wz=>∃m:Nat,m≤n∧x=.int .i64 m∧Hid (Below wo.heap.size wo wz)∧Hid (okTo S.fl m)) (fun x _ _ _ _ _=>n - (intOf x).toNat)
  case atStart=>exact⟨0,Nat.zero_le _,rfl,hid (Below.refl _ _),hid (fun j _ hj=>absurd hj (Nat.not_lt_zero _))⟩
  case round =>
  obtain⟨m,hm,rfl,HBz,HOk⟩:=hrel
  have e12:=(HBz.out.cell (block_lt_of_cell? _ _ c12)).trans c12
  by_cases hlt:m < n
  ·have hlt2:m < S.fl.rls.length:=by have:=HNr.out;omega
   have hmr:m < rs.length:=by have:=HLr.out;omega
   have hr1:rs[m].1=S.fl.rls[m]:=by
    have h:rs.map (·.1)=S.fl.rls:=HRs1.out
    simp [←h]
   obtain⟨-,A,cap,hvA,hcap,hcells⟩:=HRd.out
   rw [HV.out,HLr.out] at hvA
   cases hvA
   obtain⟨g,o,rfl,hc2⟩:=hcells.resolve_left (by have:=HLr.out;omega)
   obtain⟨q0,q1,q2,q3,q4,q5,q6,q7⟩:=qrls_at rs m hmr
   have d6:=hc2 _ _ q6
   have d7:=hc2 _ _ q7
   rw [←Nat.add_assoc] at d6 d7
   have hio:=HIs.out _ (List.getElem_mem hmr)
   obtain⟨nv,hnv⟩:∃u,rs[m].2=u:=⟨_,rfl⟩
   rw [hr1] at d7 hio
   rw [hnv] at d6 hio
   obtain⟨r,hr⟩:∃r,S.fl.rls[m]=r:=⟨_,rfl⟩
   have HRl:Hid (S.fl.rls[m]=r):=hid hr
   rw [hr] at d7 hio
   obtain⟨pn,cn,rfl,hcn,hnx⟩:=hio
   have HNx:=hid hnx
   have HDd:Hid (∀W,Below wo.heap.size wo W→W.cell? ⟨rf,12,none⟩=some (.slice (some ⟨g,o,none⟩) n cpR)∧W.cell? ⟨g,o+m*8+6,none⟩=some (.slice pn r.next.length cn)∧W.cell? ⟨g,o+m*8+7,none⟩=some (.int .i64 r.line)):=hid (fun W hW=>⟨(hW.cell (block_lt_of_cell? _ _ c12)).trans c12,(hW.cell (block_lt_of_cell? _ _ d6)).trans d6,(hW.cell (block_lt_of_cell? _ _ d7)).trans d7⟩)
   have hnb:canon r.next=r.next∧∀x∈r.next,0≤x∧x≤65535:=by rw [←HRl.out];exact HBd.out.nexts _ (List.getElem_mem hlt2)
   have HNb:=hid hnb.2
   have hnl:=canon_len hnb.1 hnb.2
   clear q0 q1 q2 q3 q4 q5 q6 q7 hc2 hcells hnv hr1 hmr hr hnx hnb d6 d7 hcap
   go_wp2_with fail
   go_loopw [14,15,16,17] (fun x _ _ _ wy=>∃q:Nat,q≤r.next.length∧x=.int .i64 q∧Hid (Below wo.heap.size wo wy)∧Hid ((r.next.take q).all (goesB S.fl)=true)) (fun x _ _ _ _=>r.next.length - (intOf x).toNat)
   case atStart=>exact⟨0,Nat.zero_le _,rfl,HBz,hid rfl⟩
   case round =>
   obtain⟨q,hq,rfl,HBy,HTk⟩:=hrel
   clear e12
   obtain⟨e12,d6,d7⟩:=HDd.out _ HBy.out
   by_cases hlt3:q < r.next.length
   ·obtain⟨x,hx⟩:∃x,r.next[q]=x:=⟨_,rfl⟩
    have hxb:=HNb.out _ (List.getElem_mem hlt3)
    rw [hx] at hxb
    obtain⟨bb,off,rfl,hcs2⟩:=HNx.out.resolve_left (by omega)
    have e5:=hcs2 q hlt3
    have hgx:r.next.getD q 0=x:=by rw [←hx];simp [List.getD,hlt3]
    rw [hgx] at e5
    have d5:=(HBy.out.cell (block_lt_of_cell? _ _ e5)).trans e5
    have hMy:=HM.out.below HBy.out
    have hcl:=so_qFind rf S.fl.cls x wr hMy.clsF hcl3
    have hgo:=goes_of S.fl x _ _ rfl rfl
    unfold qclsP qclsV at hcl
    obtain⟨d,hd⟩:∃d,(S.fl.cls.find? (fun c=>c.flag==x)).getD noCl=d:=⟨_,rfl⟩
    obtain⟨is,his⟩:∃b,(S.fl.cls.find? (fun c=>c.flag==x)).isSome=b:=⟨_,rfl⟩
    rw [hd,his] at hcl hgo
    have HCl:=hid hcl
    have HTn:Hid (∀b,goesB S.fl x=b→(r.next.take (q+1)).all (goesB S.fl)=b):=hid (fun b hb=>by
     rw [List.take_succ_eq_append_getElem hlt3,List.all_append,HTk.out,hx];simp [hb])
    have HBad:Hid (goesB S.fl x=false→affR s.data.toList=.error (r.line,118)):=hid (fun hb=>by
     have hck:checkE S.fl=some r.line:=by
      rw [←HRl.out]
      refine HOk.out.bad hlt2 ?_
      rw [HRl.out]
      rw [Bool.eq_false_iff]
      intro h
      rw [List.all_eq_true] at h
      have:=h x (by rw [←hx];exact List.getElem_mem hlt3)
      rw [hb] at this;cases this
     rw [HAff.out,HRe.out,affEnd,hck])
    clear hcl e5 hcs2 hd his hx hgx hMy
    by_cases hs0:x=S.fl.s0
    ·have hb0:(x==S.fl.s0)=true:=by rw [beq_iff_eq];exact hs0
     have hb1:(x != S.fl.s0)=false:=by simp [hs0]
     have HTn2:=hid (HTn.out true (by rw [hgo,hb0];rfl))
     clear hgo hs0 HBad
     go_wp2_with (go_at_call 102;refine HCl.out.mono ?_;rintro e9 w6 ⟨rfl,hb6⟩;have hb7:=hb6.alloc hb6.size (.cells #[.int .i64 d.flag,.int .i64 d.kind,.bool d.cross,.int .i64 d.first,.int .i64 d.count] 192);have HB7:=hid (HBy.out.trans (hb7.mono HBy.out.size));have s7:((w6.alloc (.cells #[.int .i64 d.flag,.int .i64 d.kind,.bool d.cross,.int .i64 d.first,.int .i64 d.count] 192)).cell? ⟨rf,3,none⟩)=some (.int .i64 S.fl.s0):=(HM.out.below HB7.out).fc 3;clear hb6 hb7)
     go_roundw
     case rel=>exact⟨q+1,by omega,by go_num,HB7,HTn2⟩
     case measure=>simp [intOf];omega
    have hb0:(x==S.fl.s0)=false:=by rw [beq_eq_false_iff_ne];exact hs0
    have hb1:(x != S.fl.s0)=true:=by simp [hs0]
    rw [hb0,Bool.false_or] at hgo
    clear hs0
    cases is
    ·have HE:=hid (HBad.out hgo)
     clear hgo HBad HTn
     go_wp2_with (go_at_call 102;refine HCl.out.mono ?_;rintro e9 w6 ⟨rfl,hb6⟩;have hb7:=hb6.alloc hb6.size (.cells #[.int .i64 d.flag,.int .i64 d.kind,.bool d.cross,.int .i64 d.first,.int .i64 d.count] 192);have HB7:=hid (HBy.out.trans (hb7.mono HBy.out.size));have s7:((w6.alloc (.cells #[.int .i64 d.flag,.int .i64 d.kind,.bool d.cross,.int .i64 d.first,.int .i64 d.count] 192)).cell? ⟨rf,3,none⟩)=some (.int .i64 S.fl.s0):=(HM.out.below HB7.out).fc 3;clear hb6 hb7)
     obtain⟨f12,f6,f7⟩:=HDd.out _ HB7.out
     go_quiet (fail)
     go_wp2_with fail
     go_ret3
     exact .bad HE.out (below_drewN (HB.out.trans ((HM.out.below HB7.out).base.mono HB.out.size)) _)
    rw [Bool.true_and] at hgo
    by_cases hk2:d.kind=2
    ·have ek:(d.kind==2)=true:=by rw [hk2];rfl
     have ek2:(d.kind != 2)=false:=by rw [hk2];rfl
     have HTn2:=hid (HTn.out true (by rw [hgo,ek]))
     clear hgo HBad HTn hk2
     go_wp2_with (go_at_call 102;refine HCl.out.mono ?_;rintro e9 w6 ⟨rfl,hb6⟩;have hb7:=hb6.alloc hb6.size (.cells #[.int .i64 d.flag,.int .i64 d.kind,.bool d.cross,.int .i64 d.first,.int .i64 d.count] 192);have HB7:=hid (HBy.out.trans (hb7.mono HBy.out.size));have s7:((w6.alloc (.cells #[.int .i64 d.flag,.int .i64 d.kind,.bool d.cross,.int .i64 d.first,.int .i64 d.count] 192)).cell? ⟨rf,3,none⟩)=some (.int .i64 S.fl.s0):=(HM.out.below HB7.out).fc 3;clear hb6 hb7)
     go_roundw
     case rel=>exact⟨q+1,by omega,by go_num,HB7,HTn2⟩
     case measure=>simp [intOf];omega
    have ek:(d.kind==2)=false:=by rw [beq_eq_false_iff_ne];exact hk2
    have ek2:(d.kind != 2)=true:=by simp [hk2]
    have HE:=hid (HBad.out (by rw [hgo,ek]))
    clear hgo HBad HTn hk2
    go_wp2_with (go_at_call 102;refine HCl.out.mono ?_;rintro e9 w6 ⟨rfl,hb6⟩;have hb7:=hb6.alloc hb6.size (.cells #[.int .i64 d.flag,.int .i64 d.kind,.bool d.cross,.int .i64 d.first,.int .i64 d.count] 192);have HB7:=hid (HBy.out.trans (hb7.mono HBy.out.size));have s7:((w6.alloc (.cells #[.int .i64 d.flag,.int .i64 d.kind,.bool d.cross,.int .i64 d.first,.int .i64 d.count] 192)).cell? ⟨rf,3,none⟩)=some (.int .i64 S.fl.s0):=(HM.out.below HB7.out).fc 3;clear hb6 hb7)
    obtain⟨f12,f6,f7⟩:=HDd.out _ HB7.out
    go_quiet (fail)
    go_wp2_with fail
    go_ret3
    exact .bad HE.out (below_drewN (HB.out.trans ((HM.out.below HB7.out).base.mono HB.out.size)) _)
   obtain rfl:q=r.next.length:=by omega
   have HA:Hid (r.next.all (goesB S.fl)=true):=hid (by have:=HTk.out;rwa [List.take_of_length_le (Nat.le_refl _)] at this)
   go_wp2_with fail
   go_roundw
   case rel=>exact⟨m+1,by omega,by go_num,HBy,hid (HOk.out.step hlt2 (by rw [HRl.out];exact HA.out))⟩
   case measure=>simp [intOf];omega
  obtain rfl:m=n:=by omega
  have HE:=hid (okTo.none_ (by rw [HNr.out];exact HOk.out))
  go_wp2_with fail
  go_ret3
  refine .good (by rw [HAff.out,HRe.out,affEnd,HE.out]) (HB.out.trans ((HM.out.below HBz.out).base.mono HB.out.size)) (HM.out.below HBz.out).fileAt HBd.out.flOk HRf.out
 obtain⟨g,rfl⟩:∃g,gk=g+1:=⟨gk - 1,by rw [hrows] at hg;simp at hg;omega⟩
 have hg2:rest.length≤g:=by rw [hrows] at hg;simpa using hg
 have HRs:Hid (R=match stepR EE S l row rest with
  | .error e=>.error e
  | .ok S'=>readGo EE g S'):=hid (by rw [←HGo.out,readGo,hrows];rfl)
 obtain⟨gr,orr,cr,fv,hvr,halt,hcr,e0,e1,hrd⟩:=rows_at HRows2.out (hpa.at_ hrows)
 rw [HNn.out] at hvr halt hcr
 cases hvr
 have HF1:=hid (rowF1_of hbd hrows hrd)
 have hne:row≠[]:=(hbd.row (l,row) (by rw [hrows];simp)).1
 have hpos:0 < row.length:=List.length_pos_iff.2 hne
 have hrwl:row.length≤65536:=HF1.out.len
 have HTk:=hid (hbd.take hrows)
 have HPn:=hid (hpa.next (l:=l) hrows)
 have HM:=hid hqm
 obtain⟨fg,fo,fc,rfl,hfc,fcells⟩:=HF1.out.cells hpos
 have d0:=(hqm.base.cell (block_lt_of_cell? w2 _ e0)).trans e0
 have d1:=(hqm.base.cell (block_lt_of_cell? w2 _ e1)).trans e1
 have ha0:(0:Int)≤(a:Int):=by omega
 have hai:(a:Int) < (N:Int):=by omega
 have hwa:IntKind.i64.wrap ((a:Int)+1)=((a+1:Nat):Int):=by rw [IntKind.wrap_i64];omega
 have z5:=hqm.rz 5
 have c5:=hqm.r5
 have HFC:=hid fcells
 clear hrows hbd hpa hqm hrd hne fcells e0 e1 hg
 go_upto_region 9 with fail
 have HMy:=hid (HM.out.setLine l)
 have HGy:Hid (Go2 L wr L (wr.setCell ⟨rr,5,none⟩ (.int .i64 l))):=hid ⟨set_kept' HM.out.rrL,fun _ h=>.inl h⟩
 generalize wr.setCell ⟨rr,5,none⟩ (.int .i64 l)=wy at HMy HGy ⊢
 clear c2 c5 z5 d0 d1
 have c2:=HMy.out.r2
 have z2:=HMy.out.rz 2
 have HMz:Hid (QM w2 (wy.setCell ⟨rr,2,none⟩ (.int .i64 ((a:Int)+1))) L rr rf v EE all (a+1) { S with line:=l,rows:=rest }):=hid (HMy.out.setAt (a+1) rest)
 go_upto_region 10 with fail
 generalize wy.setCell ⟨rr,2,none⟩ (.int .i64 ((a:Int)+1))=wz at HMz ⊢
 clear c2 z2 HMy HGy hwa ha0 hai
 have HFz:Hid (∀W,Below wz.heap.size wz W→W.cell? ⟨fg,fo,none⟩=some (.string (fieldAt row 0))):=hid (fun W hb=>by
  have:=field_in (HFC.out 0 hpos) (HMz.out.below hb).base
  rwa [Nat.add_zero] at this)
 have f0:=HFz.out wz (Below.refl _ _)
 have HF0:Hid (∀W,Below w2.heap.size w2 W→W.cell? ⟨fg,fo,none⟩=some (.string (fieldAt row 0))):=hid (fun W hb=>by
  have:=field_in (HFC.out 0 hpos) hb
  rwa [Nat.add_zero] at this)
 have HBe:Hid (∀W,Below wz.heap.size wz W→Below w.heap.size w W∧W.cell? ⟨rr,5,none⟩=some (.int .i64 l)):=hid (fun W hb=>⟨HB.out.trans ((HMz.out.below hb).base.mono HB.out.size),(HMz.out.below hb).r5⟩)
 have c5:=(HBe.out wz (Below.refl _ _)).2
 have HWd:=hid (so_qwidth (fieldAt row 0) wz)
 by_cases hk13:keyN (fieldAt row 0)=13
 ·have HX:Hid (affR s.data.toList=.error (l,110)):=hid (by rw [HAff.out,HRs.out,stepR,if_pos hk13];rfl)
  rw [wdQ_no hk13] at HWd
  clear hk13
  go_wp2_with (go_at_call 99;refine HWd.out.mono ?_;rintro e9 w9 ⟨rfl,rfl⟩)
  go_quiet (fail)
  go_wp2_with fail
  go_ret3
  exact .bad HX.out (HBe.out _ (below_drewN (Below.refl _ _) _)).1
 obtain⟨k,hk⟩:∃k,keyN (fieldAt row 0)=k:=⟨_,rfl⟩
 have hkl:k < 13:=by have:=keyN_le (fieldAt row 0);omega
 rw [wdQ_key hk hkl] at HWd
 have HK:=hid hk
 obtain⟨wd,hwd⟩:∃n:Nat,widthN k=n:=⟨_,rfl⟩
 have HW:=hid hwd
 have hw24:wd=2∨wd=4:=by rcases widthN_of k with h | h<;>omega
 rw [hwd] at HWd
 have hk13':=hid hk13
 clear hk hwd hk13
 by_cases hlw:row.length=wd
 ·have HLw:=hid hlw
  have hlw1:((row.length:Int)==(wd:Int))=true:=by rw [hlw,beq_self_eq_true]
  have hlw2:((row.length:Int) != (wd:Int))=false:=by rw [hlw];simp
  have c4:=HMz.out.r4
  have hhl:S.heads.length≤65536:=by have:=HRQ.out.1.heads;omega
  have HSt:Hid (Calls Tryz.prog 100 #[.pointer (some ⟨rr,0,none⟩),.string (fieldAt row 0)] wz fun e w'=>e=.returned (.bool (S.heads.contains (fieldAt row 0)))∧wz=w'):=hid (so_qstood rr v.heads S.heads (fieldAt row 0) wz c4 (Rd.of_own HMz.out.heads.1) hhl)
  obtain⟨b,hb⟩:∃b,S.heads.contains (fieldAt row 0)=b:=⟨_,rfl⟩
  rw [hb] at HSt
  have HBb:=hid hb
  clear hlw c4 hhl hb
  by_cases htw:wd=2∧b=true
  ·have HX:Hid (affR s.data.toList=.error (l,112)):=hid (by
    rw [HAff.out,HRs.out,stepR,if_neg hk13'.out,HK.out,HW.out,if_neg (by rw [HLw.out];simp),if_pos ⟨htw.1,by rw [HBb.out];exact htw.2⟩];rfl)
   obtain⟨rfl,rfl⟩:=htw
   go_wp2_with (first | (go_at_call 99;refine HWd.out.mono ?_;rintro e9 w9 ⟨rfl,rfl⟩) | (go_at_call 100;refine HSt.out.mono ?_;rintro e8 w8 ⟨rfl,rfl⟩))
   go_quiet (fail)
   go_wp2_with fail
   go_ret3
   exact .bad HX.out (HBe.out _ (below_drewN (Below.refl _ _) _)).1
  have HRt:Hid (R=match headR EE { S with rows:=rest,line:=l } row k with
   | .error e=>.error e
   | .ok S'=>readGo EE g { S' with heads:=S'.heads++[fieldAt row 0] }):=hid (by
   rw [HRs.out,stepR,if_neg hk13'.out,HK.out,HW.out,if_neg (by rw [HLw.out];simp),if_neg (by rw [HBb.out];exact htw)]
   cases headR EE { S with rows:=rest,line:=l } row k<;>rfl)
  have HHd:Hid (Calls Tryz.prog 101 #[.pointer (some ⟨rr,0,none⟩),.slice (some ⟨fg,fo,none⟩) row.length fc] wz (GrpQ w2 L rr rf EE all 1 0 (headR EE { S with rows:=rest,line:=l } row k) wz)):=hid (so_qheading w2 L rr rf EE all 1 0 { S with rows:=rest,line:=l } _ row wz ⟨HTk.out,v,a+1,HPn.out,HMz.out⟩ HF1.out k HK.out hkl (by rw [HLw.out,HW.out]) (by rw [HNn.out];exact hN2))
  have htw2:wd=2∧b=false∨wd=4:=by
   rcases hw24 with h | h
   ·exact .inl ⟨h,by cases b;rfl;exact absurd ⟨h,rfl⟩ htw⟩
   exact .inr h
  clear htw hw24
  go_upto_region 11 with (go_at_call 99;refine HWd.out.mono ?_;rintro e9 w9 ⟨rfl,rfl⟩)
  have hwd0:((wd:Int)==0)=false:=by rw [beq_eq_false_iff_ne];omega
  go_upto_region 16 with (go_at_call 100;refine HSt.out.mono ?_;rintro e8 w8 ⟨rfl,rfl⟩)
  go_cut [97] from 93 to 97 (fun p W=>p=.bool false∧W=wz)
  case first =>
   rcases htw2 with ⟨rfl,rfl⟩ | rfl
   all_goals go_wp2_with fail
   all_goals go_meet
   all_goals exact⟨rfl,rfl⟩
  case rest =>
  obtain⟨rfl,hwz⟩:=hcut
  rw [hwz]
  clear hwz wc
  obtain⟨H,hH⟩:∃H,headR EE { S with rows:=rest,line:=l } row k=H:=⟨_,rfl⟩
  have HHe:=hid hH
  rw [hH] at HHd HRt
  clear hH htw2
  cases H with
  | error p =>
   obtain⟨l',c⟩:=p
   have HX:Hid (affR s.data.toList=.error (l',c)):=hid (by rw [HAff.out,HRt.out];rfl)
   unfold GrpQ at HHd
   clear HRt HHe
   go_upto_region 20 with (go_at_call 101;refine HHd.out.mono ?_;rintro e5 w5 ⟨L5,hg5,hc0,rfl,hl5⟩;have HB5:Hid (Below w.heap.size w w5):=hid (HB.out.trans ((HMz.out.base.trans (hg5.1.below HMz.out.base.size (fun x hx=>(HMz.out.hl x hx).1))).mono HB.out.size));have hc1:(c != 0)=true:=by { simpa using hc0 };clear hg5 hc0)
   go_quiet (fail)
   go_wp2_with fail
   go_ret3
   exact .bad HX.out (below_drewN HB5.out _)
  | ok S3 =>
   have HRw:Hid (S3.rows.length≤g):=hid (Nat.le_trans (head_rows HHe.out) hg2)
   unfold GrpQ at HHd
   go_upto_region 21 with (go_at_call 101;refine HHd.out.mono ?_;rintro e5 w5 ⟨L5,hg5,rfl,hq5⟩;have HQ5:=hid hq5;clear hg5 hq5)
   obtain⟨hbd5,v5,a5,hpa5,hm5⟩:=HQ5.out
   have HBd5:=hid hbd5
   have HPa5:=hid hpa5
   have HM5:=hid hm5
   obtain⟨A4,cp4,hv4⟩:=own_slice hm5.heads.1
   have HV4:=hid hv4
   obtain⟨nh,hnh⟩:∃n,S3.heads.length=n:=⟨_,rfl⟩
   have hnh2:nh≤65536:=by rw [←hnh];have:=hbd5.heads;omega
   have HNh:=hid hnh
   have c4:w5.cell? ⟨rr,4,none⟩=some (.slice A4 nh cp4):=by rw [hm5.r4,hv4,hnh]
   have hrr5:=block_lt_of_cell? _ _ c4
   have f5:=field_in (HFC.out 0 hpos) hm5.base
   rw [Nat.add_zero] at f5
   have hfg5:=block_lt_of_cell? _ _ f5
   have z4:=hm5.rz 4
   have HOc:Hid (∀W,Below w5.heap.size w5 W→W.cell? ⟨rr,4,none⟩=some (.slice A4 nh cp4)∧W.ownsRow 0 9 1 (.slice A4 nh cp4) nh (strV S3.heads)):=hid (fun W hW=>⟨by rw [(HM5.out.below hW).r4,HV4.out,HNh.out],by
    have:=(HM5.out.below hW).heads.1
    rw [HV4.out,HNh.out] at this;exact this⟩)
   have HPu:Hid (∀W,Below w5.heap.size w5 W→∀W9 g9 cap9,W9.ownsRow 0 9 1 (.slice (some ⟨g9,0,none⟩) (nh+1) cap9) (nh+1) (strV S3.heads++[.string (fieldAt row 0)])→W.grownBy W9 (Value.slice A4 nh cp4).ownBlock→LocP W W9 (.slice A4 nh cp4) (.slice (some ⟨g9,0,none⟩) (nh+1) cap9) →
     ∃L',QM w2 (W9.setCell ⟨rr,4,none⟩ (.slice (some ⟨g9,0,none⟩) (nh+1) cap9)) L' rr rf { v5 with heads:=.slice (some ⟨g9,0,none⟩) (nh+1) cap9 } EE all a5 { S3 with heads:=S3.heads++[fieldAt row 0] }):=hid (fun W hW W9 g9 cap9 hown hg hloc=>by
    rw [←HNh.out] at hown hg hloc ⊢
    rw [←HV4.out] at hg hloc
    obtain⟨L',hG,hM⟩:=(HM5.out.below hW).push_heads (fieldAt row 0) hg hloc hown
    exact⟨L',hM⟩)
   have HFg:Hid (∀W,Below w5.heap.size w5 W→∀W9,W.grownBy W9 (Value.slice A4 nh cp4).ownBlock→W9.cell? ⟨rr,4,none⟩=some (.slice A4 nh cp4)∧W9.frozen? ⟨rr,4,none⟩=false∧W9.cell? ⟨fg,fo,none⟩=some (.string (fieldAt row 0))):=hid (fun W hW W9 hg=>by
    rw [←HNh.out,←HV4.out] at hg
    have hf:=(HM5.out.below hW).rdr_grown hg (HM5.out.below hW).ty_heads (by decide)
    refine⟨by rw [cell_of_heap hf,←HNh.out,←HV4.out];rfl,frozen_of_heap hf 4,?_⟩
    have hbs:=(HM5.out.below hW).grown_base hg (HM5.out.below hW).heads.2
    have:=field_in (HFC.out 0 hpos) hbs
    rwa [Nat.add_zero] at this)
   have HHs:Hid ((fieldAt row 0).size≤65536):=hid (fieldAt_le HF1.out.each 0)
   clear hbd5 hpa5 hm5 hv4 hnh f0 c5 HQ5
   refine wp_region_held_drew (S:=fun W=>W.cell? ⟨fg,fo,none⟩=some (.string (fieldAt row 0))) (by kernel_rfl) ?_ (fun hHeld=>?_)
   ·exact (drew_below.cell hfg5).trans f5
   refine tkA 0 (some 112) hHeld ?_;try simp only [put_norm]
   refine tkA 1 (some 113) hHeld ?_;try simp only [put_norm]
   refine tkA 2 (some 114) hHeld ?_;try simp only [put_norm]
   refine tkA 3 (some 115) hHeld ?_;try simp only [put_norm]
   refine tkA 5 (some 117) hHeld ?_;try simp only [put_norm]
   refine tkA 6 (some 118) hHeld ?_;try simp only [put_norm]
   refine tkA 7 (some 119) hHeld ?_;try simp only [put_norm]
   refine wpAnyH_ready (rs:=[4,8]) (by kernel_rfl) (by simp) ?_
   refine AllReadyH.cons rfl (fun K hK=>?_) ?_
   ·go_simp
    refine hK.out _ _ ?_ (fun hHeld=>?_)
    ·first | exact (drew_below.cell hfg5).trans f5 | exact ((drew_below.alloc (Nat.le_refl _) _).cell hfg5).trans f5 | exact R9 | exact HF0.out _ HMF.out.base
    clear hK K
    refine rdy1 8 (fun K hK=>?_)
    go_simp
    refine hK.out _ _ ?_ (fun hHeld=>?_)
    ·first | exact (drew_below.cell hfg5).trans f5 | exact ((drew_below.alloc (Nat.le_refl _) _).cell hfg5).trans f5 | exact R9 | exact HF0.out _ HMF.out.base
    clear hK K
    refine rdy1 9 (fun K hK=>?_)
    refine step_pushL (w:=w5.drew) (by rfl) _ _ 110 (by rfl) 0 9 i0 _ 1 16 Tryz.underlying110 hi hz0 hz1 hz2 rfl (by decide) (.slice A4 nh cp4) nh (strV S3.heads) (by rfl) (HOc.out _ drew_below).2 #[.string (fieldAt row 0)] (by rfl) (by intro x hx;simp at hx;rcases hx with rfl;rfl) (by rfl) (by unfold maxLen;omega) (by omega) (Nat.zero_le _) ?_
    intro gg cc w9 hown hg9 hloc
    obtain⟨L9,hM9⟩:=HPu.out _ drew_below _ _ _ hown hg9 hloc
    have HMF:=hid hM9
    obtain⟨c9'',z9,R9⟩:=HFg.out _ drew_below _ hg9
    clear hown hg9 hloc hM9
    refine hK.out _ _ ?_ (fun hHeld=>?_)
    ·exact R9
    clear hK K
    refine tkA 10 (some 122) hHeld ?_;try simp only [put_norm]
    refine tkA 11 (some 123) hHeld ?_;try simp only [put_norm]
    refine rdy1 12 (fun K hK=>?_)
    go_simp
    refine hK.out _ _ ?_ (fun hHeld=>?_)
    ·first | exact (drew_below.cell hfg5).trans f5 | exact ((drew_below.alloc (Nat.le_refl _) _).cell hfg5).trans f5 | exact R9 | exact HF0.out _ HMF.out.base
    clear hK K
    refine wpAnyH_done (by kernel_rfl) ?_ _
    go_wp2_with fail
    go_roundg g
    case measure=>omega
    case rel=>exact⟨{ S3 with heads:=S3.heads++[fieldAt row 0] },L9,HRw.out,hid ⟨HBd5.out.pushHead (fieldAt row 0) HHs.out,_,a5,HPa5.out,HMF.out⟩,hid HRt.out.symm⟩
   refine AllReadyH.cons rfl (fun K hK=>?_) ?_
   ·go_simp
    refine hK.out _ _ ?_ (fun hHeld=>?_)
    ·first | exact (drew_below.cell hfg5).trans f5 | exact ((drew_below.alloc (Nat.le_refl _) _).cell hfg5).trans f5 | exact R9 | exact HF0.out _ HMF.out.base
    clear hK K
    refine rdy1 4 (fun K hK=>?_)
    go_simp
    refine hK.out _ _ ?_ (fun hHeld=>?_)
    ·first | exact (drew_below.cell hfg5).trans f5 | exact ((drew_below.alloc (Nat.le_refl _) _).cell hfg5).trans f5 | exact R9 | exact HF0.out _ HMF.out.base
    clear hK K
    refine rdy1 9 (fun K hK=>?_)
    refine step_pushL (w:=w5.drew) (by rfl) _ _ 110 (by rfl) 0 9 i0 _ 1 16 Tryz.underlying110 hi hz0 hz1 hz2 rfl (by decide) (.slice A4 nh cp4) nh (strV S3.heads) (by rfl) (HOc.out _ drew_below).2 #[.string (fieldAt row 0)] (by rfl) (by intro x hx;simp at hx;rcases hx with rfl;rfl) (by rfl) (by unfold maxLen;omega) (by omega) (Nat.zero_le _) ?_
    intro gg cc w9 hown hg9 hloc
    obtain⟨L9,hM9⟩:=HPu.out _ drew_below _ _ _ hown hg9 hloc
    have HMF:=hid hM9
    obtain⟨c9'',z9,R9⟩:=HFg.out _ drew_below _ hg9
    clear hown hg9 hloc hM9
    refine hK.out _ _ ?_ (fun hHeld=>?_)
    ·exact R9
    clear hK K
    refine tkA 10 (some 122) hHeld ?_;try simp only [put_norm]
    refine tkA 11 (some 123) hHeld ?_;try simp only [put_norm]
    refine rdy1 12 (fun K hK=>?_)
    go_simp
    refine hK.out _ _ ?_ (fun hHeld=>?_)
    ·first | exact (drew_below.cell hfg5).trans f5 | exact ((drew_below.alloc (Nat.le_refl _) _).cell hfg5).trans f5 | exact R9 | exact HF0.out _ HMF.out.base
    clear hK K
    refine wpAnyH_done (by kernel_rfl) ?_ _
    go_wp2_with fail
    go_roundg g
    case measure=>omega
    case rel=>exact⟨{ S3 with heads:=S3.heads++[fieldAt row 0] },L9,HRw.out,hid ⟨HBd5.out.pushHead (fieldAt row 0) HHs.out,_,a5,HPa5.out,HMF.out⟩,hid HRt.out.symm⟩
   exact AllReadyH.nil
 have HX:Hid (affR s.data.toList=.error (l,111)):=hid (by rw [HAff.out,HRs.out,stepR,if_neg hk13'.out,HK.out,HW.out,if_pos hlw];rfl)
 have hlw1:((row.length:Int)==(wd:Int))=false:=by rw [beq_eq_false_iff_ne];omega
 have hlw2:((row.length:Int) != (wd:Int))=true:=by simp;omega
 have hwd0:((wd:Int)==0)=false:=by rw [beq_eq_false_iff_ne];omega
 clear hlw hw24
 go_wp2_with (go_at_call 99;refine HWd.out.mono ?_;rintro e9 w9 ⟨rfl,rfl⟩)
 go_quiet (fail)
 go_wp2_with fail
 go_ret3
 exact .bad HX.out (HBe.out _ (below_drewN (Below.refl _ _) _)).1
abbrev En:=ByteArray×List Int
def enFlags (F:Fl) (w:List UInt8) (rest:ByteArray):Except Int En :=
 if (flagsR F rest).2≠0 then .error (flagsR F rest).2 else if (flagsR F rest).1.all (definedB F)=true then .ok (mkS w,(flagsR F rest).1) else .error 120
def enWord (F:Fl) (w rest:List UInt8) (cut:Bool):Except Int En :=
 if w=[]∨fitAll (mkS w)=false then .error 21 else if 64 < w.length then .error 22 else if cut=false then .ok (mkS w,[]) else enFlags F w (mkS rest)
def entR (F:Fl) (row:List ByteArray):Except Int En :=
 if row.length≠1 then .error 111 else match wordR (fieldAt row 0).data.toList with
  | (w,rest,cut,e)=>if e≠0 then .error e else enWord F w rest cut
def dgo (F:Fl) (count:Int):Nat→List Row→Except (Int×Int) (List En)
 | _,[]=>.ok []
 | i,(l,row)::rest=>if (i:Int)=count then .error (l,116) else match entR F row with
   | .error c=>.error (l,c)
   | .ok x=>match dgo F count (i+1) rest with
     | .error p=>.error p
     | .ok xs=>.ok (x::xs)
def dicRows (F:Fl) (end_:Int):List Row→Except (Int×Int) (List En)
 | []=>.error (end_,116)
 | (l,row)::rest=>if row.length≠1 then .error (l,111) else if numErr (fieldAt row 0).data.toList 8192≠0 then .error (l,13)
   else match dgo F (numVal (fieldAt row 0).data.toList 8192) 0 rest with
    | .error p=>.error p
    | .ok xs=>if (xs.length:Int) < numVal (fieldAt row 0).data.toList 8192 then .error (end_,116) else .ok xs
def dicR (F:Fl) (l:List UInt8):Except (Int×Int) (List En) :=
 if 65536 < l.length then .error (0,10) else dicRows F ((linesOf l).length+1) (rowsOf (eachOf l))
theorem dgo_nil (F:Fl) (count:Int) (i:Nat):dgo F count i []=.ok []:=rfl
theorem dgo_many {F:Fl} {count:Int} {i:Nat} {l:Int} {row:List ByteArray} {rest:List Row} (h:(i:Int)=count):dgo F count i ((l,row)::rest)=.error (l,116):=by rw [dgo,if_pos h]
theorem dgo_bad {F:Fl} {count:Int} {i:Nat} {l c:Int} {row:List ByteArray} {rest:List Row} (h:(i:Int)≠count) (he:entR F row=.error c):dgo F count i ((l,row)::rest)=.error (l,c):=by rw [dgo,if_neg h,he]
theorem dgo_ok {F:Fl} {count:Int} {i:Nat} {l:Int} {row:List ByteArray} {rest:List Row} {x:En} (h:(i:Int)≠count) (he:entR F row=.ok x) :
 dgo F count i ((l,row)::rest)=match dgo F count (i+1) rest with | .error p=>.error p | .ok xs=>.ok (x::xs):=by rw [dgo,if_neg h,he]
def DLeft (F:Fl) (count:Int) (all:List Row) (i:Nat) (acc:List En):Prop :=
 acc.length=i∧i≤all.length∧dgo F count 0 all=match dgo F count i (all.drop i) with | .error p=>.error p | .ok xs=>.ok (acc++xs)
theorem DLeft.start (F:Fl) (count:Int) (all:List Row):DLeft F count all 0 []:=⟨rfl,Nat.zero_le _,by
 rw [List.drop_zero]
 cases dgo F count 0 all<;>rfl⟩
theorem DLeft.many {F:Fl} {count:Int} {all:List Row} {i:Nat} {acc:List En} (h:DLeft F count all i acc) (hi:i < all.length) (hc:(i:Int)=count):dgo F count 0 all=.error (all[i].1,116):=by
 rw [h.2.2,List.drop_eq_getElem_cons hi,dgo_many hc]
theorem DLeft.bad {F:Fl} {count:Int} {all:List Row} {i:Nat} {acc:List En} (h:DLeft F count all i acc) (hi:i < all.length) (hc:(i:Int)≠count) {c:Int} (he:entR F all[i].2=.error c):dgo F count 0 all=.error (all[i].1,c):=by
 rw [h.2.2,List.drop_eq_getElem_cons hi,dgo_bad hc he]
theorem DLeft.more {F:Fl} {count:Int} {all:List Row} {i:Nat} {acc:List En} (h:DLeft F count all i acc) (hi:i < all.length) (hc:(i:Int)≠count) {x:En} (he:entR F all[i].2=.ok x):DLeft F count all (i+1) (acc++[x]):=by
 refine⟨by rw [List.length_append,h.1];rfl,hi,?_⟩
 rw [h.2.2,List.drop_eq_getElem_cons hi,dgo_ok hc he]
 cases dgo F count (i+1) (all.drop (i+1)) with
 | error p=>rfl
 | ok xs=>simp
theorem DLeft.done {F:Fl} {count:Int} {all:List Row} {acc:List En} (h:DLeft F count all all.length acc):dgo F count 0 all=.ok acc:=by
 rw [h.2.2,List.drop_length,dgo_nil]
 simp
theorem dgo_len {F:Fl} {count:Int}:∀(all:List Row) (i:Nat) (xs:List En),dgo F count i all=.ok xs→xs.length=all.length
 | [],i,xs,h=>by rw [dgo_nil] at h;cases h;rfl
 | (l,row)::rest,i,xs,h=>by
   rw [dgo] at h
   split at h
   ·cases h
   ·split at h
    ·cases h
    ·split at h
     ·cases h
     ·rename_i ys hy
      cases h
      rw [List.length_cons,List.length_cons,dgo_len rest (i+1) ys hy]
theorem so_IndexL (v:Value) (zs:List Int) (x:Int) (w:World) (h:FS w v zs) (hbig:zs.length≤9223372036854775807) :
  Calls Tryz.prog 123 #[v,.int .u16 x] w fun e w'=>e=.returned (.int .i64 (Lib.idxOf zs x))∧w'=w:=by
 obtain⟨p,c,rfl,hcap,hs⟩:=h
 have hS:=hid hs
 clear hs
 go_enter Tryz.func123,Tryz.ntmps123
 go_wp2
 go_loop [5,8] (fun _ i=>∃k:Nat,k≤zs.length∧i=.int .i64 k∧∀j,j < k→zs.getD j 0≠x) (fun _ i=>zs.length - (intOf i).toNat)
 case atStart=>exact⟨0,Nat.zero_le _,rfl,fun j hj=>absurd hj (Nat.not_lt_zero _)⟩
 case round =>
 obtain⟨k,hk,rfl,hne⟩:=hrel
 have hN:=hid hne
 clear hne
 by_cases hlt:k < zs.length
 ·obtain⟨b,off,rfl,hc⟩:=hS.out.resolve_left (by omega)
  have hcell:=hc k hlt
  generalize hz:zs.getD k 0=z at hcell
  clear hc
  cases hq:(x==z)
  ·go_wp2
   go_roundw
   case rel =>
    refine⟨k+1,by omega,by go_num,fun j hj=>?_⟩
    by_cases e:j=k
    ·subst e;rw [hz];intro e;rw [e] at hq;simp at hq
    exact hN.out j (by omega)
   case measure=>simp [intOf];omega
  go_wp2
  go_ret
  have:=Lib.idxOf_hit zs zs.length k x hlt (Nat.le_refl _) (by rw [hz];exact (beq_iff_eq.1 hq).symm) hN.out
  rw [List.take_length] at this
  exact⟨by rw [this];rfl,rfl⟩
 have hke:k=zs.length:=by omega
 subst hke
 go_wp2
 go_ret
 have:=Lib.idxOf_miss zs zs.length x hN.out
 rw [List.take_length] at this
 exact⟨by rw [this];rfl,rfl⟩
theorem so_ContainsL (v:Value) (zs:List Int) (x:Int) (w:World) (h:FS w v zs) (hbig:zs.length≤9223372036854775807) :
  Calls Tryz.prog 86 #[v,.int .u16 x] w fun e w'=>e=.returned (.bool (zs.contains x))∧w'=w:=by
 have hb:zs.contains x=decide (0≤Lib.idxOf zs x):=by
  rw [Bool.eq_iff_iff,decide_eq_true_eq,Lib.idxOf_nonneg_iff]
 have hbb:=hid hb
 clear hb
 have hF:=hid h
 obtain⟨p,c,rfl,hcap,-⟩:=h
 go_enter Tryz.func86,Tryz.ntmps86
 go_wp2_with (go_at_call 123;refine (so_IndexL _ zs x _ hF.out hbig).mono ?_;rintro e w' ⟨rfl,rfl⟩)
 go_ret
 exact⟨by rw [hbb.out];rfl,rfl⟩
theorem so_dfault (l c:Int) (w:World):Calls Tryz.prog 48 #[.int .i64 l,.int .i64 c] w fun e w'=>e=.returned (.agg #[.int .i64 2,.int .i64 l,.int .i64 c])∧Below w.heap.size w w':=by
 go_enter Tryz.func48,Tryz.ntmps48
 go_wp2_with fail
 refine bodyPost_ret (v:=.agg #[.int .i64 2,.int .i64 l,.int .i64 c]) (by simp [results,Tryz.results48,go_sem];try rfl) rfl ?_
 exact⟨rfl,(Below.refl _ _).alloc (Nat.le_refl _) _⟩
def headN (row:List ByteArray):Int×Int:=if row.length≠1 then (0,111) else (numVal (fieldAt row 0).data.toList 8192,numErr (fieldAt row 0).data.toList 8192)
theorem so_dhead (l:Int) (fv:Value) (row:List ByteArray) (w:World) (hr:Rd w 1 fv row.length (strV row)) (hs:∀j,(fieldAt row j).size≤65536) (hn:row.length≤9223372036854775807) :
  Calls Tryz.prog 49 #[.agg #[.int .i64 l,fv]] w fun e w'=>e=.returned (.tuple #[.int .i64 (headN row).1,.int .i64 (headN row).2])∧Below w.heap.size w w':=by
 obtain⟨-,A,cp,rfl,hcap,hcells⟩:=hr
 have hb1:Below w.heap.size w (w.alloc (.cells #[.int .i64 l,.slice A row.length cp] 133)):=(Below.refl _ _).alloc (Nat.le_refl _) _
 have HB1:=hid hb1
 by_cases h1:row.length=1
 ·obtain⟨g,o,rfl,hc⟩:=hcells.resolve_left (by omega)
  have hx:(strV row)[0]?=some (.string (fieldAt row 0)):=by
   match row,h1 with
   | [f],_=>rfl
  have c1:=hc 0 _ hx
  rw [Nat.add_zero] at c1
  have HC1:=hid ((hb1.cell (block_lt_of_cell? _ _ c1)).trans c1)
  have HX:Hid (headN row=(numVal (fieldAt row 0).data.toList 8192,numErr (fieldAt row 0).data.toList 8192)):=hid (by rw [headN,if_neg (by omega)])
  have HN:Hid (∀W,Calls Tryz.prog 63 #[.string (fieldAt row 0),.int .i64 8192] W fun e W'=>e=.returned (.tuple #[.int .i64 (numVal (fieldAt row 0).data.toList 8192),.int .i64 (numErr (fieldAt row 0).data.toList 8192)])∧W=W'):=hid (fun W=>by
   have h2:=Number_any (fieldAt row 0) 8192 W (by have:=hs 0;unfold maxLen;omega) (by omega) (by omega)
   unfold NumRet at h2
   exact h2)
  rw [h1] at HB1 HC1 hcap ⊢
  rw [HX.out]
  generalize fieldAt row 0=f at *
  have d1:=HC1.out
  clear hcells hc hx c1 hb1 hs hn h1 HX
  go_enter Tryz.func49,Tryz.ntmps49
  go_wp2_with (go_at_call 63;refine (HN.out _).mono ?_;rintro e w2 ⟨rfl,rfl⟩)
  go_ret2
  exact⟨rfl,HB1.out⟩
 have h1':((row.length:Int) != 1)=true:=by rw [bne_iff_ne];omega
 have HX:Hid (headN row=(0,111)):=hid (by rw [headN,if_pos h1])
 rw [HX.out]
 clear hcells hb1 hs h1 HX
 go_enter Tryz.func49,Tryz.ntmps49
 go_wp2_with fail
 go_ret2
 exact⟨rfl,HB1.out⟩
theorem news_of {w w':World} {size n:Nat} {p:Option Addr} {xs:List Value} (hs:n=0∨∃g o,p=some ⟨g,o,none⟩∧∀j u,xs[j]?=some u→w.cell? ⟨g,o+j,none⟩=some u) (hl:xs.length=n*size) (hb:Below w.heap.size w w') :
  n=0∨∃ad,p=some ad∧∀j u,xs[j]?=some u→w'.cell? (ad.add j)=some u:=by
 refine hs.imp id ?_
 rintro⟨b,off,rfl,hc⟩
 refine⟨_,rfl,fun j u hj=>?_⟩
 have h1:=hc j u hj
 rw [Addr.add_lit]
 exact (hb.cell (block_lt_of_cell? w _ h1)).trans h1
theorem so_CloneRep (v:Value) (n:Nat) (xs:List Value) (w:World) (h:Rd w 2 v n xs) (h1:∀u∈xs,u.oneCell'=true) (hn:n≤65536) :
  Calls Tryz.prog 57 #[v] w fun e w'=>∃v',e=.returned v'∧Own w w' 145 2 v' n xs:=by
 obtain⟨hl,p,c,rfl,hcap,hs⟩:=h
 obtain⟨i0,hi,hz0,hz1,hz2⟩:=info_parts rep_info
 have qn:∀(w:World) (a:Option Addr) (n c n' c':Nat),(binOp .eql 78 (.slice a n c) (.slice none n' c')).run Tryz.prog w=.ok (.bool a.isNone) w:=fun w a n c n' c'=>run_eql_slice_nil w _ _ a n c n' c' Tryz.underlying78
 have hS:=hid hs
 have HL:=hid hl
 clear hs hl
 cases p with
 | none =>
  have h0:n=0:=hS.out.resolve_right (by rintro⟨b,off,hp,_⟩;cases hp)
  clear hS
  subst h0
  have hx:Hid (xs=[]):=hid (List.eq_nil_of_length_eq_zero (by rw [HL.out,Nat.zero_mul]))
  go_enter Tryz.func57,Tryz.ntmps57
  go_wp2
  go_ret
  exact⟨_,rfl,by rw [hx.out];exact Own.nil_ _ _ _⟩
 | some ad =>
  have hr:=run_append_src (P:=Tryz.prog) (w.alloc (.cells #[] 145)) w.heap.size 78 78 145 i0 (.agg #[.string ByteArray.empty,.string ByteArray.empty]) 2 32 Tryz.underlying78 hi hz0 hz1 hz2 rfl (by decide) _ 0 [] (World.ownsRow_made w #[] 0 (Nat.le_refl _) (Nat.zero_le _) rfl)
   (some ad) n c xs HL.out (news_of hS.out HL.out ((Below.refl _ w).alloc (Nat.le_refl _) _)) h1 (by unfold maxLen;omega) (by omega) (by simp)
  obtain⟨v',w1,hrun,hown,hg,-⟩:=hr
  rw [Nat.zero_add,List.nil_append] at hown
  have HR:=hid hrun
  have HO:=hid hown
  have HG:=hid hg
  clear hrun hown hg hS
  go_enter Tryz.func57,Tryz.ntmps57
  go_wp2_with (at_builtin;refine wpList_append_run _ rfl _ _ _ _ rfl _ _ rfl rfl _ _ HR.out ?_)
  go_ret
  refine⟨v',rfl,⟨?_,HO.out⟩⟩
  exact ((Below.refl _ w).alloc (Nat.le_refl _) _).grown HG.out (by simp) (by intro g hg;simp [Value.ownBlock] at hg;omega)
theorem so_CloneCls (v:Value) (n:Nat) (xs:List Value) (w:World) (h:Rd w 5 v n xs) (h1:∀u∈xs,u.oneCell'=true) (hn:n≤65536) :
  Calls Tryz.prog 58 #[v] w fun e w'=>∃v',e=.returned v'∧Own w w' 99 5 v' n xs:=by
 obtain⟨hl,p,c,rfl,hcap,hs⟩:=h
 obtain⟨i0,hi,hz0,hz1,hz2⟩:=info_parts class_info2
 have qn:∀(w:World) (a:Option Addr) (n c n' c':Nat),(binOp .eql 80 (.slice a n c) (.slice none n' c')).run Tryz.prog w=.ok (.bool a.isNone) w:=fun w a n c n' c'=>run_eql_slice_nil w _ _ a n c n' c' Tryz.underlying80
 have hS:=hid hs
 have HL:=hid hl
 clear hs hl
 cases p with
 | none =>
  have h0:n=0:=hS.out.resolve_right (by rintro⟨b,off,hp,_⟩;cases hp)
  clear hS
  subst h0
  have hx:Hid (xs=[]):=hid (List.eq_nil_of_length_eq_zero (by rw [HL.out,Nat.zero_mul]))
  go_enter Tryz.func58,Tryz.ntmps58
  go_wp2
  go_ret
  exact⟨_,rfl,by rw [hx.out];exact Own.nil_ _ _ _⟩
 | some ad =>
  have hr:=run_append_src (P:=Tryz.prog) (w.alloc (.cells #[] 99)) w.heap.size 80 80 99 i0 (.agg #[.int .u16 0,.int .i64 0,.bool false,.int .i64 0,.int .i64 0]) 5 40 Tryz.underlying80 hi hz0 hz1 hz2 rfl (by decide) _ 0 [] (World.ownsRow_made w #[] 0 (Nat.le_refl _) (Nat.zero_le _) rfl)
   (some ad) n c xs HL.out (news_of hS.out HL.out ((Below.refl _ w).alloc (Nat.le_refl _) _)) h1 (by unfold maxLen;omega) (by omega) (by simp)
  obtain⟨v',w1,hrun,hown,hg,-⟩:=hr
  rw [Nat.zero_add,List.nil_append] at hown
  have HR:=hid hrun
  have HO:=hid hown
  have HG:=hid hg
  clear hrun hown hg hS
  go_enter Tryz.func58,Tryz.ntmps58
  go_wp2_with (at_builtin;refine wpList_append_run _ rfl _ _ _ _ rfl _ _ rfl rfl _ _ HR.out ?_)
  go_ret
  refine⟨v',rfl,⟨?_,HO.out⟩⟩
  exact ((Below.refl _ w).alloc (Nat.le_refl _) _).grown HG.out (by simp) (by intro g hg;simp [Value.ownBlock] at hg;omega)
theorem so_CloneAls (v:Value) (n:Nat) (xs:List Value) (w:World) (h:Rd w 1 v n xs) (h1:∀u∈xs,u.oneCell'=true) (hn:n≤65536) :
  Calls Tryz.prog 59 #[v] w fun e w'=>∃v',e=.returned v'∧Own w w' 29 1 v' n xs:=by
 obtain⟨hl,p,c,rfl,hcap,hs⟩:=h
 obtain⟨i0,hi,hz0,hz1,hz2⟩:=info_parts alias_info
 have qn:∀(w:World) (a:Option Addr) (n c n' c':Nat),(binOp .eql 79 (.slice a n c) (.slice none n' c')).run Tryz.prog w=.ok (.bool a.isNone) w:=fun w a n c n' c'=>run_eql_slice_nil w _ _ a n c n' c' Tryz.underlying79
 have hS:=hid hs
 have HL:=hid hl
 clear hs hl
 cases p with
 | none =>
  have h0:n=0:=hS.out.resolve_right (by rintro⟨b,off,hp,_⟩;cases hp)
  clear hS
  subst h0
  have hx:Hid (xs=[]):=hid (List.eq_nil_of_length_eq_zero (by rw [HL.out,Nat.zero_mul]))
  go_enter Tryz.func59,Tryz.ntmps59
  go_wp2
  go_ret
  exact⟨_,rfl,by rw [hx.out];exact Own.nil_ _ _ _⟩
 | some ad =>
  have hr:=run_append_src (P:=Tryz.prog) (w.alloc (.cells #[] 29)) w.heap.size 79 79 29 i0 (.slice none 0 0) 1 24 Tryz.underlying79 hi hz0 hz1 hz2 rfl (by decide) _ 0 [] (World.ownsRow_made w #[] 0 (Nat.le_refl _) (Nat.zero_le _) rfl)
   (some ad) n c xs HL.out (news_of hS.out HL.out ((Below.refl _ w).alloc (Nat.le_refl _) _)) h1 (by unfold maxLen;omega) (by omega) (by simp)
  obtain⟨v',w1,hrun,hown,hg,-⟩:=hr
  rw [Nat.zero_add,List.nil_append] at hown
  have HR:=hid hrun
  have HO:=hid hown
  have HG:=hid hg
  clear hrun hown hg hS
  go_enter Tryz.func59,Tryz.ntmps59
  go_wp2_with (at_builtin;refine wpList_append_run _ rfl _ _ _ _ rfl _ _ rfl rfl _ _ HR.out ?_)
  go_ret
  refine⟨v',rfl,⟨?_,HO.out⟩⟩
  exact ((Below.refl _ w).alloc (Nat.le_refl _) _).grown HG.out (by simp) (by intro g hg;simp [Value.ownBlock] at hg;omega)
theorem so_CloneRls (v:Value) (n:Nat) (xs:List Value) (w:World) (h:Rd w 7 v n xs) (h1:∀u∈xs,u.oneCell'=true) (hn:n≤65536) :
  Calls Tryz.prog 60 #[v] w fun e w'=>∃v',e=.returned v'∧Own w w' 31 7 v' n xs:=by
 obtain⟨hl,p,c,rfl,hcap,hs⟩:=h
 obtain⟨i0,hi,hz0,hz1,hz2⟩:=info_parts rule_info
 have qn:∀(w:World) (a:Option Addr) (n c n' c':Nat),(binOp .eql 81 (.slice a n c) (.slice none n' c')).run Tryz.prog w=.ok (.bool a.isNone) w:=fun w a n c n' c'=>run_eql_slice_nil w _ _ a n c n' c' Tryz.underlying81
 have hS:=hid hs
 have HL:=hid hl
 clear hs hl
 cases p with
 | none =>
  have h0:n=0:=hS.out.resolve_right (by rintro⟨b,off,hp,_⟩;cases hp)
  clear hS
  subst h0
  have hx:Hid (xs=[]):=hid (List.eq_nil_of_length_eq_zero (by rw [HL.out,Nat.zero_mul]))
  go_enter Tryz.func60,Tryz.ntmps60
  go_wp2
  go_ret
  exact⟨_,rfl,by rw [hx.out];exact Own.nil_ _ _ _⟩
 | some ad =>
  have hr:=run_append_src (P:=Tryz.prog) (w.alloc (.cells #[] 31)) w.heap.size 81 81 31 i0 (.agg #[.int .i64 0,.int .u16 0,.bool false,.string ByteArray.empty,.string ByteArray.empty,.string ByteArray.empty,.slice none 0 0]) 7 88 Tryz.underlying81 hi hz0 hz1 hz2 rfl (by decide) _ 0 [] (World.ownsRow_made w #[] 0 (Nat.le_refl _) (Nat.zero_le _) rfl)
   (some ad) n c xs HL.out (news_of hS.out HL.out ((Below.refl _ w).alloc (Nat.le_refl _) _)) h1 (by unfold maxLen;omega) (by omega) (by simp)
  obtain⟨v',w1,hrun,hown,hg,-⟩:=hr
  rw [Nat.zero_add,List.nil_append] at hown
  have HR:=hid hrun
  have HO:=hid hown
  have HG:=hid hg
  clear hrun hown hg hS
  go_enter Tryz.func60,Tryz.ntmps60
  go_wp2_with (at_builtin;refine wpList_append_run _ rfl _ _ _ _ rfl _ _ rfl rfl _ _ HR.out ?_)
  go_ret
  refine⟨v',rfl,⟨?_,HO.out⟩⟩
  exact ((Below.refl _ w).alloc (Nat.le_refl _) _).grown HG.out (by simp) (by intro g hg;simp [Value.ownBlock] at hg;omega)
end Go.Proofs.YtfkblpjfknfgbaaGreatDoor
