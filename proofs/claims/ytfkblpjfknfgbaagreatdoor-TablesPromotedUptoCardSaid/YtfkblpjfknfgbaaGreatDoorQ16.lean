import Derived.BigQuiet
import Derived.Test.YtfkblpjfknfgbaaGreatDoorRows
import Derived.Test.YtfkblpjfknfgbaaGreatDoorQ15
import Derived.Test.YtfkblpjfknfgbaaGreatDoorQ5
import Derived.Test.YtfkblpjfknfgbaaGreatDoorQ14
import Derived.Test.YtfkblpjfknfgbaaGreatDoorQ13
import Derived.Test.YtfkblpjfknfgbaaGreatDoorQ3
import Derived.Test.YtfkblpjfknfgbaaGreatDoorQ0
import Derived.WalkLawsBesides
set_option linter.unusedVariables false
set_option linter.unusedSimpArgs false
set_option maxHeartbeats 8000000
set_option maxRecDepth 100000
open Go.Maps Go.RowKit
open Go.Lib (hid cell_of_heap frozen_of_heap)
open Go.World (block_lt_of_cell?)
namespace Go.Proofs.YtfkblpjfknfgbaaGreatDoor
theorem bH {w:World} {b j t:Nat} {cs:Array Value} {v:Value} (h:w.heap[b]?=some (.cells cs t (0,0))) (hv:cs[j]?=some v):w.setCell ⟨b,j,none⟩ v=w:=by
 have e:(w.setCell ⟨b,j,none⟩ v).heap=w.heap:=by
  apply Array.ext_getElem?
  intro k
  by_cases hk:k=b
  ·subst hk
   rw [heap_setCell_same w k j cs _ _ h,h]
   congr 2
   apply Array.ext_getElem?
   intro i
   rw [Array.getElem?_setIfInBounds]
   split
   ·rename_i e;subst e
    split
    ·exact hv.symm
    rename_i hn
    rw [Array.getElem?_eq_none (by omega)] at hv;cases hv
   rfl
  rw [heap_setCell_other _ ⟨b,j,none⟩ k _ (by simpa using hk)]
 cases w
 simp only [World.setCell] at e ⊢;rw [e]
def Nf (fb wb:Nat) (F:Fl) (a:AV) (ev:Value):Array Value:=#[.pointer (some ⟨fb,0,none⟩),.pointer (some ⟨wb,0,none⟩),.int .i64 F.kind,.string F.charset,.string F.qI,.int .u16 F.s0,.int .u16 F.s1,.int .u16 F.s2,.int .u16 F.s3,.int .u16 F.s4,.int .i64 F.least,a.au,a.aI,a.cls,a.rls,ev]
def AQ (W:World) (tb:Nat) (F:Fl) (a:AV):World:=(((((((((((((W.setCell ⟨tb,2,none⟩ (.int .i64 F.kind)).setCell ⟨tb,3,none⟩ (.string F.charset)).setCell ⟨tb,4,none⟩ (.string F.qI)).setCell ⟨tb,5,none⟩ (.int .u16 F.s0)).setCell ⟨tb,6,none⟩ (.int .u16 F.s1)).setCell ⟨tb,7,none⟩ (.int .u16 F.s2)).setCell ⟨tb,8,none⟩ (.int .u16 F.s3)).setCell ⟨tb,9,none⟩ (.int .u16 F.s4)).setCell ⟨tb,10,none⟩ (.int .i64 F.least)).setCell ⟨tb,11,none⟩ (a.au)).setCell ⟨tb,12,none⟩ (a.aI)).setCell ⟨tb,13,none⟩ (a.cls)).setCell ⟨tb,14,none⟩ (a.rls))
theorem IU {W:World} {tb fb wb:Nat} {F:Fl} {a:AV} (h:W.heap[tb]?=some (.cells #[.pointer (some ⟨fb,0,none⟩),.pointer (some ⟨wb,0,none⟩),.int .i64 0,.string ⟨#[]⟩,.string ⟨#[]⟩,.int .u16 0,.int .u16 0,.int .u16 0,.int .u16 0,.int .u16 0,.int .i64 0,.slice none 0 0,.slice none 0 0,.slice none 0 0,.slice none 0 0,.slice none 0 0] 87 (0,0))):(AQ W tb F a).heap[tb]?=some (.cells (Nf fb wb F a (.slice none 0 0)) 87 (0,0)):=by
 have h2:=heap_setCell_same _ tb 2 _ _ (.int .i64 F.kind) h
 have h3:=heap_setCell_same _ tb 3 _ _ (.string F.charset) h2;have h4:=heap_setCell_same _ tb 4 _ _ (.string F.qI) h3;have h5:=heap_setCell_same _ tb 5 _ _ (.int .u16 F.s0) h4;have h6:=heap_setCell_same _ tb 6 _ _ (.int .u16 F.s1) h5;have h7:=heap_setCell_same _ tb 7 _ _ (.int .u16 F.s2) h6;have h8:=heap_setCell_same _ tb 8 _ _ (.int .u16 F.s3) h7;have h9:=heap_setCell_same _ tb 9 _ _ (.int .u16 F.s4) h8;have h10:=heap_setCell_same _ tb 10 _ _ (.int .i64 F.least) h9;have h11:=heap_setCell_same _ tb 11 _ _ (a.au) h10;have h12:=heap_setCell_same _ tb 12 _ _ (a.aI) h11;have uD:=heap_setCell_same _ tb 13 _ _ (a.cls) h12;have h14:=heap_setCell_same _ tb 14 _ _ (a.rls) uD;simp only [List.setIfInBounds_toArray,List.set_cons_succ,List.set_cons_zero] at h14
 exact h14
theorem Ng {W:World} {tb fb wb:Nat} {F:Fl} {a:AV} {ev:Value} (h:W.heap[tb]?=some (.cells #[.pointer (some ⟨fb,0,none⟩),.pointer (some ⟨wb,0,none⟩),.int .i64 0,.string ⟨#[]⟩,.string ⟨#[]⟩,.int .u16 0,.int .u16 0,.int .u16 0,.int .u16 0,.int .u16 0,.int .i64 0,.slice none 0 0,.slice none 0 0,.slice none 0 0,.slice none 0 0,.slice none 0 0] 87 (0,0))):((AQ W tb F a).setCell ⟨tb,15,none⟩ ev).heap[tb]?=some (.cells (Nf fb wb F a ev) 87 (0,0)):=by
 have Zn:=heap_setCell_same _ tb 15 _ _ ev (IU (F:=F) (a:=a) h)
 unfold Nf at Zn;simp only [List.setIfInBounds_toArray,List.set_cons_succ,List.set_cons_zero] at Zn
 exact Zn
theorem Nh (W:World) (tb:Nat) (F:Fl) (a:AV) (ev:Value):Kept [tb] W ((AQ W tb F a).setCell ⟨tb,15,none⟩ ev):=by
 unfold AQ
 exact (((((((((((((((Kept.refl _ W).set _ _ _ (.inl (by simp))).set _ _ _ (.inl (by simp))).set _ _ _ (.inl (by simp))).set _ _ _ (.inl (by simp))).set _ _ _ (.inl (by simp))).set _ _ _ (.inl (by simp))).set _ _ _ (.inl (by simp))).set _ _ _ (.inl (by simp))).set _ _ _ (.inl (by simp))).set _ _ _ (.inl (by simp))).set _ _ _ (.inl (by simp))).set _ _ _ (.inl (by simp))).set _ _ _ (.inl (by simp))).set _ _ _ (.inl (by simp)))
def TabAt (w:World) (tb:Nat) (F:Fl) (es:List En):Prop:=∃(fb wb:Nat) (a:AV) (ev:Value),w.heap[tb]?=some (.cells (Nf fb wb F a ev) 87 (0,0))∧gu w fb F∧iH w wb es∧tq 0 w F a∧Kg w ev es
theorem TabAt.keep {w w':World} {tb:Nat} {F:Fl} {es:List En} (h:TabAt w tb F es) (hb:Below w.heap.size w w'):TabAt w' tb F es:=by
 obtain⟨fb,wb,a,ev,h1,h2,h3,h4,h5⟩:=h
 exact⟨fb,wb,a,ev,(hb.block _ (block_lt h1)).trans h1,h2.keep hb,h3.keep hb,h4.keep hb,h5.keep hb⟩
def Qd (r:Except (Int×Int×Int) (Fl×List En)) (w:World) (e:Ending) (w':World):Prop:=Below w.heap.size w w'∧match r with
 | .error p=>e=.returned (.tuple #[.pointer none,.agg #[.int .i64 p.1,.int .i64 p.2.1,.int .i64 p.2.2]])
 | .ok p=>∃tb,e=.returned (.tuple #[.pointer (some ⟨tb,0,none⟩),.agg #[.int .i64 0,.int .i64 0,.int .i64 0]])∧TabAt w' tb p.1 p.2∧(iU p.1∧fA p.1∧Ei p.2)∧w.heap.size≤tb
theorem Gy (a d:ByteArray) (m0:Int) (w:World) (h0:0 < w.heap.size) (hm:w.cell? ⟨0,0,none⟩=some (.int .i64 m0)) :
  Calls Tryz.prog 17 #[.string a,.string d] w (Qd (yw a.data.toList d.data.toList) w):=by
 have HM:Hid (∀W,Below w.heap.size w W→0 < W.heap.size∧W.cell? ⟨0,0,none⟩=some (.int .i64 m0)):=hid (fun W hW=>⟨Nat.lt_of_lt_of_le h0 hW.size,(hW.cell (block_lt_of_cell? _ _ hm)).trans hm⟩)
 obtain⟨wA,BR⟩:∃W,w.alloc (.cells #[.int .i64 0,.int .i64 0,.int .i64 0] 60)=W:=⟨_,rfl⟩
 have Fx:Hid (Below w.heap.size w wA):=hid (by rw [←BR];exact (Below.refl _ _).alloc (Nat.le_refl _) _)
 have IV:Hid (wA.heap[w.heap.size]?=some (.cells #[.int .i64 0,.int .i64 0,.int .i64 0] 60 (0,0))):=hid (by rw [←BR];exact heap_alloc_new w _)
 have HR:=hid (F6 a m0 wA (HM.o _ Fx.o).1 (HM.o _ Fx.o).2);unfold ME at HR;clear h0 hm;have HT:Hid (Qd (yw a.data.toList d.data.toList) w=Qd (yw a.data.toList d.data.toList) w):=hid rfl
 cases hr:gY a.data.toList with
 | error p =>
  rw [Ej hr]
  rw [hr] at HR;dsimp only at HR;unfold Vj at HR;obtain⟨l,c⟩:=p;clear hr
  go_enter Tryz.func17,Tryz.ntmps17
  go_wp2_with (go_at_call 16;refine HR.o.mono ?_;rintro e w1 ⟨hb1,rfl⟩;have HB1:=hid (Fx.o.trans (hb1.mono Fx.o.size));have fV:=hid ((hb1.block _ (block_lt IV.o)).trans IV.o);clear hb1;have hx:=(((Below.refl _ w1).alloc (Nat.le_refl _) (.cells #[.int .i64 1,.int .i64 l,.int .i64 c] 60)).block _ (block_lt fV.o)).trans fV.o;have d0:=cell_of_heap hx 0;have d1:=cell_of_heap hx 1;have d2:=cell_of_heap hx 2;simp only [List.getElem?_toArray,List.getElem?_cons_zero,List.getElem?_cons_succ] at d0 d1 d2;have z0:=frozen_of_heap hx 0;have z1:=frozen_of_heap hx 1;have z2:=frozen_of_heap hx 2;clear hx)
  go_region
  go_wp2_with fail
  refine bodyPost_ret (v:=.tuple #[.pointer none,.agg #[.int .i64 1,.int .i64 l,.int .i64 c]]) (by simp [results,Tryz.results17,go_sem,d0,d1,d2];try rfl) rfl ?_
  have hX:=(((HB1.o.alloc HB1.o.size (.cells #[.int .i64 1,.int .i64 l,.int .i64 c] 60)).setCell (p:=⟨w.heap.size,0,none⟩) (Nat.le_refl _) (.int .i64 1)).setCell (p:=⟨w.heap.size,1,none⟩) (Nat.le_refl _) (.int .i64 l)).setCell (p:=⟨w.heap.size,2,none⟩) (Nat.le_refl _) (.int .i64 c)
  exact⟨hX.trans (ah.mono hX.size),rfl⟩
 | ok F =>
  have XH:=hid (Qb hr)
  rw [hr] at HR;dsimp only at HR
  cases hd:mg F d.data.toList with
  | error p =>
   rw [El hr hd]
   obtain⟨l,c⟩:=p
   have HD:Hid (∀fb W,gu W fb F→iU F→Below w.heap.size w W→Calls Tryz.prog 18 #[.pointer (some ⟨fb,0,none⟩),.string d] W fun e w'=>Below W.heap.size W w'∧e=.returned (.tuple #[.pointer none,.agg #[.int .i64 2,.int .i64 l,.int .i64 c]])):=hid (fun fb W hf hok hb=>by
    have:=yc fb F d m0 W hf hok (HM.o W hb).1 (HM.o W hb).2
    rw [hd] at this
    exact this)
   clear hr hd
   go_enter Tryz.func17,Tryz.ntmps17
   go_wp2_with (first
    | (go_at_call 16;refine HR.o.mono ?_;rintro e w1 ⟨hb1,fb,rfl,hf,hok,Fp⟩;have HB1:=hid (Fx.o.trans (hb1.mono Fx.o.size));have fV:=hid ((hb1.block _ (block_lt IV.o)).trans IV.o);have Aj:=hid (hf.keep ((Below.refl _ _).alloc (Nat.le_refl _) (.cells #[.int .i64 0,.int .i64 0,.int .i64 0] 60)));have jr:=hid hok;have HB2:=hid (HB1.o.alloc HB1.o.size (.cells #[.int .i64 0,.int .i64 0,.int .i64 0] 60));have dL:=hid ((((Below.refl _ w1).alloc (Nat.le_refl _) (.cells #[.int .i64 0,.int .i64 0,.int .i64 0] 60)).block _ (block_lt fV.o)).trans fV.o);have V9:=hid (heap_alloc_new w1 (.cells #[.int .i64 0,.int .i64 0,.int .i64 0] 60));clear hb1 hf hok Fp)
    | (go_at_call 18;refine (HD.o _ _ Aj.o jr.o HB2.o).mono ?_;rintro e w3 ⟨hb3,rfl⟩;have HB3:=hid (HB2.o.trans (hb3.mono HB2.o.size));have ku:=hid ((hb3.block _ (block_lt dL.o)).trans dL.o);have hy3:=(hb3.block _ (block_lt V9.o)).trans V9.o;have hx3:=ku.o;have d0:=cell_of_heap hx3 0;have d1:=cell_of_heap hx3 1;have d2:=cell_of_heap hx3 2;have y0:=cell_of_heap hy3 0;have y1:=cell_of_heap hy3 1;have y2:=cell_of_heap hy3 2;simp only [List.getElem?_toArray,List.getElem?_cons_zero,List.getElem?_cons_succ] at d0 d1 d2 y0 y1 y2;have z0:=frozen_of_heap hx3 0;have z1:=frozen_of_heap hx3 1;have z2:=frozen_of_heap hx3 2;have x0:=frozen_of_heap hy3 0;have x1:=frozen_of_heap hy3 1;have x2:=frozen_of_heap hy3 2;have iB:=hid HB1.o.size;have hlt1:w.heap.size < w1.heap.size:=block_lt fV.o;clear hb3 hx3 hy3))
   go_region
   go_wp2_with fail
   refine bodyPost_ret (v:=.tuple #[.pointer none,.agg #[.int .i64 2,.int .i64 l,.int .i64 c]]) (by simp [results,Tryz.results17,go_sem,d0,d1,d2];try rfl) rfl ?_
   have hX:=(((((HB3.o.setCell (p:=⟨w1.heap.size,0,none⟩) iB.o (.int .i64 2)).setCell (p:=⟨w1.heap.size,1,none⟩) iB.o (.int .i64 l)).setCell (p:=⟨w1.heap.size,2,none⟩) iB.o (.int .i64 c)).setCell (p:=⟨w.heap.size,0,none⟩) (Nat.le_refl _) (.int .i64 2)).setCell (p:=⟨w.heap.size,1,none⟩) (Nat.le_refl _) (.int .i64 l)).setCell (p:=⟨w.heap.size,2,none⟩) (Nat.le_refl _) (.int .i64 c)
   exact⟨hX.trans (ah.mono hX.size),rfl⟩
  | ok es =>
   rw [Ci hr hd]
   have HD:Hid (∀fb W,gu W fb F→iU F→Below w.heap.size w W→Calls Tryz.prog 18 #[.pointer (some ⟨fb,0,none⟩),.string d] W fun e w'=>Below W.heap.size W w'∧∃wb,e=.returned (.tuple #[.pointer (some ⟨wb,0,none⟩),.agg #[.int .i64 0,.int .i64 0,.int .i64 0]])∧iH w' wb es∧W.heap.size≤wb):=hid (fun fb W hf hok hb=>by
    have:=yc fb F d m0 W hf hok (HM.o W hb).1 (HM.o W hb).2
    rw [hd] at this
    exact this)
   have HEs:Hid (iU F→Ei es):=hid (fun hok=>Qc hok XH.o hd)
   clear hr hd
   go_enter Tryz.func17,Tryz.ntmps17
   go_upto_region 8 with (first
    | (go_at_call 16;refine HR.o.mono ?_;rintro e w1 ⟨hb1,fb,rfl,hf,hok,Fp⟩;have HB1:=hid (Fx.o.trans (hb1.mono Fx.o.size));have fV:=hid ((hb1.block _ (block_lt IV.o)).trans IV.o);have Aj:=hid (hf.keep ((Below.refl _ _).alloc (Nat.le_refl _) (.cells #[.int .i64 0,.int .i64 0,.int .i64 0] 60)));have jr:=hid hok;have HB2:=hid (HB1.o.alloc HB1.o.size (.cells #[.int .i64 0,.int .i64 0,.int .i64 0] 60));have dL:=hid ((((Below.refl _ w1).alloc (Nat.le_refl _) (.cells #[.int .i64 0,.int .i64 0,.int .i64 0] 60)).block _ (block_lt fV.o)).trans fV.o);have V9:=hid (heap_alloc_new w1 (.cells #[.int .i64 0,.int .i64 0,.int .i64 0] 60));clear hb1 hf hok Fp)
    | (go_at_call 18;refine (HD.o _ _ Aj.o jr.o HB2.o).mono ?_;rintro e w3 ⟨hb3,wb,rfl,Un,hwb⟩;have HB3:=hid (HB2.o.trans (hb3.mono HB2.o.size));have ku:=hid ((hb3.block _ (block_lt dL.o)).trans dL.o);have Fe:=hid ((hb3.block _ (block_lt V9.o)).trans V9.o);have hy3:=Fe.o;have y0:=cell_of_heap hy3 0;have y1:=cell_of_heap hy3 1;have y2:=cell_of_heap hy3 2;simp only [List.getElem?_toArray,List.getElem?_cons_zero,List.getElem?_cons_succ] at y0 y1 y2;have x0:=frozen_of_heap hy3 0;have x1:=frozen_of_heap hy3 1;have x2:=frozen_of_heap hy3 2;have XI:=hid (Aj.o.keep hb3);have HW3:=hid Un;have iB:=hid HB1.o.size;have hlt1:w.heap.size < w1.heap.size:=block_lt fV.o;clear hb3 Un hwb hy3))
   have V_:((w3.setCell ⟨w1.heap.size,0,none⟩ (.int .i64 0)).setCell ⟨w1.heap.size,1,none⟩ (.int .i64 0)).setCell ⟨w1.heap.size,2,none⟩ (.int .i64 0)=w3:=by rw [bH Fe.o rfl,bH Fe.o rfl,bH Fe.o rfl]
   rw [V_];obtain⟨w4,hw4⟩:∃W,w3.alloc (.cells #[.pointer (some ⟨fb,0,none⟩),.pointer (some ⟨wb,0,none⟩),.int .i64 0,.string ⟨#[]⟩,.string ⟨#[]⟩,.int .u16 0,.int .u16 0,.int .u16 0,.int .u16 0,.int .u16 0,.int .i64 0,.slice none 0 0,.slice none 0 0,.slice none 0 0,.slice none 0 0,.slice none 0 0] 87)=W:=⟨_,rfl⟩
   have Wd:Hid (w4.heap[w3.heap.size]?=some (.cells #[.pointer (some ⟨fb,0,none⟩),.pointer (some ⟨wb,0,none⟩),.int .i64 0,.string ⟨#[]⟩,.string ⟨#[]⟩,.int .u16 0,.int .u16 0,.int .u16 0,.int .u16 0,.int .u16 0,.int .i64 0,.slice none 0 0,.slice none 0 0,.slice none 0 0,.slice none 0 0,.slice none 0 0] 87 (0,0))):=hid (by rw [←hw4];exact heap_alloc_new _ _)
   have XJ:Hid (w4.heap.size=w3.heap.size+1):=hid (by rw [←hw4];simp)
   have Kh:Hid (Below w3.heap.size w3 w4):=hid (by rw [←hw4];exact (Below.refl _ _).alloc (Nat.le_refl _) _)
   have fF:Hid (Below w.heap.size w w4):=hid (HB3.o.trans (Kh.o.mono HB3.o.size));have Dv:=hid ((Kh.o.block _ (block_lt ku.o)).trans ku.o);have XK:=hid (XI.o.keep Kh.o);have HW4:=hid (HW3.o.keep Kh.o);have HL4:Hid (w.heap.size < w3.heap.size):=hid (block_lt ku.o);rw [hw4];obtain⟨tb,htb⟩:∃n,w3.heap.size=n:=⟨_,rfl⟩;rw [htb] at Wd XJ HL4 ⊢
   have XL:Hid (tb < w4.heap.size):=hid (by rw [XJ.o];exact Nat.lt_succ_self tb)
   have HAf:Hid (∀W,Below w4.heap.size w4 W→Calls Tryz.prog 30 #[.pointer (some ⟨fb,0,none⟩)] W fun e w'=>∃a,e=.returned (J2 F a)∧tq W.heap.size w' F a∧Below W.heap.size W w'):=hid (fun W hW=>xV fb F W (XK.o.keep hW) jr.o)
   have zC:Hid (∀W,Below w4.heap.size w4 W→Calls Tryz.prog 36 #[.pointer (some ⟨wb,0,none⟩)] W fun e w'=>∃v,e=.returned v∧zG W.heap.size w' v es∧Below W.heap.size W w'):=hid (fun W hW=>Gx wb es W (HW4.o.keep hW) (HEs.o jr.o))
   have Ea:Hid (∀W,Below w4.heap.size w4 W→W.cell? ⟨tb,0,none⟩=some (.pointer (some ⟨fb,0,none⟩))∧W.cell? ⟨tb,1,none⟩=some (.pointer (some ⟨wb,0,none⟩))):=hid (fun W hW=>by
    have h:=(hW.block tb XL.o).trans Wd.o
    exact⟨cell_of_heap h 0,cell_of_heap h 1⟩)
   have lM:Hid (∀W,Below w4.heap.size w4 W→∀j,W.cell? ⟨tb,j,none⟩=(#[.pointer (some ⟨fb,0,none⟩),.pointer (some ⟨wb,0,none⟩),.int .i64 0,.string ⟨#[]⟩,.string ⟨#[]⟩,.int .u16 0,.int .u16 0,.int .u16 0,.int .u16 0,.int .u16 0,.int .i64 0,.slice none 0 0,.slice none 0 0,.slice none 0 0,.slice none 0 0,.slice none 0 0]:Array Value)[j]?∧W.frozen? ⟨tb,j,none⟩=false):=hid (fun W hW j=>by
    have h:=(hW.block tb XL.o).trans Wd.o
    exact⟨cell_of_heap h j,frozen_of_heap h j⟩)
   have Zo:=hid htb;clear V_ hw4 htb hlt1 y0 y1 y2 x0 x1 x2
   go_cut [] from 31 to 46 (fun W=>∃(a:AV) (ev:Value),Hid (Below w.heap.size w W)∧Hid (W.heap[tb]?=some (.cells (Nf fb wb F a ev) 87 (0,0)))∧Hid (tq 0 W F a)∧Hid (Kg W ev es)∧Hid (gu W fb F)∧Hid (iH W wb es)∧Hid (W.heap[w.heap.size]?=some (.cells #[.int .i64 0,.int .i64 0,.int .i64 0] 60 (0,0))))
   case first =>
    refine wp_region_held_drew (S:=fun W=>W.cell? ⟨tb,0,none⟩=some (.pointer (some ⟨fb,0,none⟩))∧W.cell? ⟨tb,1,none⟩=some (.pointer (some ⟨wb,0,none⟩))) (by kernel_rfl) ?_ (fun hHeld=>?_)
    ·exact Ea.o _ ah
    refine aA 0 (some 31) hHeld ?_;try simp only [aj]
    refine aA 1 (some 32) hHeld ?_;try simp only [aj]
    refine aA 2 (some 33) hHeld ?_;try simp only [aj]
    refine aA 3 (some 34) hHeld ?_;try simp only [aj]
    refine aA 4 (some 35) hHeld ?_;try simp only [aj]
    refine aA 5 (some 36) hHeld ?_;try simp only [aj]
    refine aA 7 (some 38) hHeld ?_;try simp only [aj]
    refine aA 8 (some 39) hHeld ?_;try simp only [aj]
    refine aA 9 (some 40) hHeld ?_;try simp only [aj]
    refine aA 10 (some 41) hHeld ?_;try simp only [aj]
    refine aP 6 (fun K hK=>?_)
    go_simp
    refine (HAf.o _ ah).mono ?_
    rintro e wa ⟨⟨vr,va,vc,vl⟩,rfl,hn,hb⟩
    have P_:Hid (Below w4.heap.size w4 wa):=hid ((ah (w:=w4)).trans hb);obtain⟨Ar,kr,rfl⟩:=aF hn.au
    obtain⟨Aa,ka,rfl⟩:∃A k,va=.slice A F.aI.length k:=by obtain⟨us,h,-⟩:=hn.aI;exact aF h
    obtain⟨Ac,kc,rfl⟩:=aF hn.cls
    obtain⟨Al,nl,kl,rfl⟩:∃A n k,vl=.slice A n k:=by obtain⟨rs,-,h,-⟩:=hn.rls;obtain⟨A,k,h⟩:=aF h;exact⟨A,_,k,h⟩
    have VF:=hid (hn.mono (Nat.le_trans (Nat.le_of_eq XJ.o.symm) (by simp)))
    unfold J2 zA;clear hn hb
    refine hK.out _ _ ?_ (fun hHeld=>?_)
    ·exact Ea.o _ P_.o
    clear hK K
    refine aP 11 (fun K hK=>?_)
    go_simp
    refine (zC.o _ P_.o).mono ?_
    rintro e we ⟨ve,rfl,hn,hb⟩
    have oo:Hid (Below w4.heap.size w4 we):=hid (P_.o.trans (hb.mono P_.o.size))
    obtain⟨Ae,ne,ke,rfl⟩:∃A n k,ve=.slice A n k:=by obtain⟨xs,-,h,-⟩:=hn;obtain⟨A,k,h⟩:=aF h;exact⟨A,_,k,h⟩
    have OY:=hid (hn.mono (Nat.le_trans (Nat.le_of_eq XJ.o.symm) P_.o.size));have Zp:=hid (VF.o.keep hb);clear hn hb;have c2:=(lM.o we oo.o 2).1;have f2:=(lM.o we oo.o 2).2;have c3:=(lM.o we oo.o 3).1;have f3:=(lM.o we oo.o 3).2;have c4:=(lM.o we oo.o 4).1;have f4:=(lM.o we oo.o 4).2;have c5:=(lM.o we oo.o 5).1;have f5:=(lM.o we oo.o 5).2;have c6:=(lM.o we oo.o 6).1;have f6:=(lM.o we oo.o 6).2;have c7:=(lM.o we oo.o 7).1;have f7:=(lM.o we oo.o 7).2;have c8:=(lM.o we oo.o 8).1;have f8:=(lM.o we oo.o 8).2;have c9:=(lM.o we oo.o 9).1;have f9:=(lM.o we oo.o 9).2;have c10:=(lM.o we oo.o 10).1;have f10:=(lM.o we oo.o 10).2;have c11:=(lM.o we oo.o 11).1;have f11:=(lM.o we oo.o 11).2;have c12:=(lM.o we oo.o 12).1;have f12:=(lM.o we oo.o 12).2;have c13:=(lM.o we oo.o 13).1;have f13:=(lM.o we oo.o 13).2;have c14:=(lM.o we oo.o 14).1;have f14:=(lM.o we oo.o 14).2;have c15:=(lM.o we oo.o 15).1;have f15:=(lM.o we oo.o 15).2
    simp only [List.getElem?_toArray,List.getElem?_cons_zero,List.getElem?_cons_succ] at c2 c3 c4 c5 c6 c7 c8 c9 c10 c11 c12 c13 c14 c15
    have hM:=IU (tb:=tb) (F:=F) (a:=⟨.slice Ar F.au.length kr,.slice Aa F.aI.length ka,.slice Ac F.cls.length kc,.slice Al nl kl⟩) ((oo.o.block tb XL.o).trans Wd.o);have hD:=Ng (tb:=tb) (F:=F) (a:=⟨.slice Ar F.au.length kr,.slice Aa F.aI.length ka,.slice Ac F.cls.length kc,.slice Al nl kl⟩) (ev:=.slice Ae ne ke) ((oo.o.block tb XL.o).trans Wd.o);have HD:=hid hD;unfold AQ at hM hD;dsimp only at hM hD;have Qe:=hid (cell_of_heap hM 0);have iA:=hid (cell_of_heap hM 1);have HD0:=hid (cell_of_heap hD 0);have HD1:=hid (cell_of_heap hD 1);clear hM hD;have hk:=Nh we tb F ⟨.slice Ar F.au.length kr,.slice Aa F.aI.length ka,.slice Ac F.cls.length kc,.slice Al nl kl⟩ (.slice Ae ne ke);have hb3:Below w3.heap.size w3 we:=Kh.o.trans (oo.o.mono Kh.o.size)
    have hb4:=hk.below (B:=w3.heap.size) (Nat.le_trans (Nat.le_of_eq rfl) hb3.size) (by intro x hx;simp at hx;have:=Zo.o;omega)
    have CO:=hid (HB3.o.trans ((hb3.trans hb4).mono HB3.o.size))
    have Ip:=hid ((Zp.o.kept hk (by simp)).mono (Nat.zero_le _))
    have Zq:=hid (OY.o.kept hk (by simp)).rd
    have Zr:=hid (XI.o.keep (hb3.trans hb4));have Zt:=hid (HW3.o.keep (hb3.trans hb4));have Zu:=hid (((hb3.trans hb4).block _ (block_lt ku.o)).trans ku.o);unfold AQ at HD CO Ip Zq Zr Zt Zu;dsimp only at HD CO Ip Zq Zr Zt Zu;clear hk hb3 hb4
    refine hK.out _ _ ?_ (fun hHeld=>?_)
    ·exact Ea.o _ oo.o
    clear hK K
    refine aA 12 (some 43) hHeld ?_;try simp only [aj]
    refine aA 13 (some 44) hHeld ?_;try simp only [aj]
    refine aP 14 (fun K hK=>?_)
    go_simp
    refine hK.out _ _ ?_ (fun hHeld=>?_)
    ·exact⟨Qe.o,iA.o⟩
    clear hK K
    refine aA 15 (some 45) hHeld ?_;try simp only [aj]
    refine aA 16 (some 46) hHeld ?_;try simp only [aj]
    refine aP 17 (fun K hK=>?_)
    go_simp
    refine hK.out _ _ ?_ (fun hHeld=>?_)
    ·exact⟨HD0.o,HD1.o⟩
    clear hK K
    refine wpAnyH_done (by kernel_rfl) ?_ _
    go_wp2_with fail
    go_meet
    exact⟨⟨.slice Ar F.au.length kr,.slice Aa F.aI.length ka,.slice Ac F.cls.length kc,.slice Al nl kl⟩,.slice Ae ne ke,CO,HD,Ip,Zq,Zr,Zt,Zu⟩
   case rest =>
   obtain⟨a2,ev,V8,HTf,HNf,Uz,HFf,VX,Qf⟩:=hcut
   have d0:=cell_of_heap Qf.o 0;have d1:=cell_of_heap Qf.o 1;have d2:=cell_of_heap Qf.o 2
   simp only [List.getElem?_toArray,List.getElem?_cons_zero,List.getElem?_cons_succ] at d0 d1 d2
   have z0:=frozen_of_heap Qf.o 0;have z1:=frozen_of_heap Qf.o 1;have z2:=frozen_of_heap Qf.o 2
   go_wp2_with fail
   refine bodyPost_ret (v:=.tuple #[.pointer (some ⟨tb,0,none⟩),.agg #[.int .i64 0,.int .i64 0,.int .i64 0]]) (by simp [results,Tryz.results17,go_sem,d0,d1,d2];try rfl) rfl ?_
   rw [bH Qf.o rfl,bH Qf.o rfl,bH Qf.o rfl]
   exact⟨V8.o,tb,rfl,⟨fb,wb,a2,ev,HTf.o,HFf.o,VX.o,HNf.o,Uz.o⟩,⟨jr.o,XH.o,HEs.o jr.o⟩,Nat.le_of_lt HL4.o⟩
theorem uN {b:Bool} {s:ByteArray} {c:Int} (h:bL b s=.error c):c≠0:=by
 unfold bL at h
 split at h
 ·cases h
 split at h
 split at h
 ·cases h;assumption
 split at h
 ·cases h;decide
 split at h
 ·cases h;assumption
 cases h
theorem AU {F:Fl} {s:ByteArray} {c:Int} (h:gq F s=.error c):c≠0:=by
 unfold gq at h
 split at h
 ·cases h;assumption
 split at h
 ·cases h;decide
 cases h
theorem Qg {F:Fl} {l:Int} {row:List ByteArray} {c:Int} (h:gV F l row=.error c):c≠0:=by
 unfold gV at h
 split at h
 ·cases h;decide
 split at h
 ·rename_i hp;cases h;exact uN hp
 split at h
 ·rename_i hp;cases h;exact uN hp
 cases h
theorem Ki {F:Fl} {l:Int} {row:List ByteArray} {c:Int} (h:eT F l row=.error c):c≠0:=by
 unfold eT at h
 split at h
 ·cases h;decide
 split at h
 ·cases h;assumption
 cases h
theorem Ni {w:List UInt8} {c:Int} (h:o8 w=.error c):c≠0:=by
 unfold o8 at h
 split at h
 ·cases h
 split at h
 ·cases h;assumption
 cases h
theorem Kj {F:Fl} {k:Int} {r:List UInt8} {b:Bool} {c:Int} (h:nextR F k r b=.error c):c≠0:=by
 unfold nextR at h
 split at h
 ·split at h
  ·cases h;decide
  split at h
  ·cases h;assumption
  cases h
 cases h
theorem Gz {row:List ByteArray} {c:Int} (h:je row=.error c):c≠0:=by
 unfold je at h
 split at h
 ·split at h
  ·cases h;decide
  split at h
  ·rename_i hc
   cases h
   have:=uF hc
   simpa using this
  cases h
 cases h
theorem Nj {cl:Cl} {F:Fl} {l:Int} {row:List ByteArray} {c:Int} (h:bZ cl F l row=.error c):c≠0:=by
 unfold bZ at h
 split at h
 ·rename_i hr
  cases h
  unfold bK at hr
  split at hr
  ·cases hr;decide
  split at hr
  ·rename_i hp;cases hr;exact uN hp
  split at hr
  split at hr
  ·cases hr;assumption
  split at hr
  ·rename_i ha;cases hr;exact Ni ha
  split at hr
  ·rename_i hn;cases hr;exact Kj hn
  split at hr
  ·rename_i hc;cases hr;exact Gz hc
  cases hr
 cases h
theorem qD {end_:Int} {ok:List ByteArray→Bool} {inn:Fl→Int→List ByteArray→Except Int Fl} (hi:∀F l r c,inn F l r=.error c→c≠0):∀(n:Nat) (S:Sx) (l c:Int),aO end_ ok inn n S=.error (l,c)→c≠0
 | 0,S,l,c,h=>by rw [aO] at h;cases h
 | n+1,S,l,c,h=>by
   rw [aO] at h
   split at h
   ·cases h;decide
   ·split at h
    ·split at h
     ·rename_i hF;cases h;exact hi _ _ _ _ hF
     ·exact qD hi n _ l c h
    ·cases h;decide
theorem pO {l l' c:Int} {S:Sx} {x:Except Int Fl} (h:jw l S x=.error (l',c)):x=.error c:=by
 cases x with
 | error e=>cases h;rfl
 | ok F=>cases h
theorem Nk {end_ l c:Int} {S:Sx} {row:List ByteArray} {k:Nat} (h:iy end_ S row k=.error (l,c)):c≠0:=by
 unfold iy at h
 split at h
 ·have hF:=pO h
  unfold kL at hF
  split at hF
  ·cases hF;decide
  split at hF
  ·cases hF;decide
  cases hF
 split at h
 ·have hF:=pO h
  unfold oW at hF
  split at hF
  ·cases hF;decide
  cases hF
 split at h
 ·have hF:=pO h
  unfold xO at hF
  split at hF
  ·cases hF;assumption
  cases hF
 split at h
 ·have hF:=pO h
  unfold gX at hF
  split at hF
  ·rename_i hf;cases hF;exact AU hf
  cases hF
 split at h
 ·have hF:=pO h
  unfold jI at hF
  split at hF
  ·cases hF;decide
  cases hF
 split at h
 ·unfold nW at h
  split at h
  ·cases h;decide
  exact qD (fun F l r c h=>Qg h) _ _ _ _ h
 split at h
 ·unfold jf at h
  split at h
  ·cases h;decide
  split at h
  ·cases h;decide
  exact qD (fun F l r c h=>Ki h) _ _ _ _ h
 unfold fK at h
 split at h
 ·rename_i hf;cases h;exact AU hf
 split at h
 ·cases h;decide
 split at h
 ·cases h;decide
 split at h
 ·cases h;decide
 exact qD (fun F l r c h=>Nj h) _ _ _ _ h
theorem Em {end_:Int}:∀(n:Nat) (S:Sx) (l c:Int),dS end_ n S=.error (l,c)→c≠0
 | 0,S,l,c,h=>by rw [dS] at h;cases h
 | n+1,S,l,c,h=>by
   rw [dS] at h
   split at h
   ·cases h
   ·split at h
    ·rename_i e hs
     cases h
     unfold iN at hs
     split at hs
     ·cases hs;decide
     split at hs
     ·cases hs;decide
     split at hs
     ·cases hs;decide
     split at hs
     ·rename_i hh
      cases hs
      exact Nk hh
     ·cases hs
    ·exact Em n _ l c h
theorem Nl {t:List UInt8} {l c:Int} (h:gY t=.error (l,c)):c≠0:=by
 unfold gY at h
 split at h
 ·cases h;decide
 split at h
 ·rename_i hr;cases h;exact Em _ _ _ _ hr
 split at h
 ·cases h;decide
 cases h
def mo (w:World) (ub:Nat) (F:Fl) (es:List En):Prop:=∃(rf:Nat) (v:Value),w.heap[ub]?=some (.cells #[.pointer (some ⟨rf,0,none⟩),v] 52 (0,0))∧fB w rf F∧Eb w v es
theorem mo.keep {w w':World} {ub:Nat} {F:Fl} {es:List En} (h:mo w ub F es) (hb:Below w.heap.size w w'):mo w' ub F es:=by
 obtain⟨rf,v,h1,h2,h3⟩:=h
 exact⟨rf,v,(hb.block _ (block_lt h1)).trans h1,h2.keep hb,h3.keep hb⟩
def Wh (r:Except (Int×Int×Int) (Fl×List En)) (w:World) (e:Ending) (w':World):Prop:=Below w.heap.size w w'∧match r with
 | .error p=>e=.returned (.tuple #[.pointer none,.agg #[.int .i64 p.1,.int .i64 p.2.1,.int .i64 p.2.2]])
 | .ok p=>∃ub,e=.returned (.tuple #[.pointer (some ⟨ub,0,none⟩),.agg #[.int .i64 0,.int .i64 0,.int .i64 0]])∧mo w' ub p.1 p.2∧w.heap.size≤ub
theorem Eb.slice {w:World} {v:Value} {es:List En} (h:Eb w v es):∃A cap,v=.slice A es.length cap:=by
 obtain⟨xs,h1,⟨-,A,cap,rfl,-,-⟩,-⟩:=h
 exact⟨A,cap,by rw [←h1,dz]⟩
theorem Rp (a d:ByteArray) (w:World):Calls Tryz.prog 39 #[.string a,.string d] w (Wh (yw a.data.toList d.data.toList) w):=by
 have Fx:Hid (Below w.heap.size w (w.alloc (.cells #[.int .i64 0,.int .i64 0,.int .i64 0] 103))):=hid ((Below.refl _ _).alloc (Nat.le_refl _) _)
 have IV:=hid (heap_alloc_new w (.cells #[.int .i64 0,.int .i64 0,.int .i64 0] 103));obtain⟨wA,BR⟩:∃W,w.alloc (.cells #[.int .i64 0,.int .i64 0,.int .i64 0] 103)=W:=⟨_,rfl⟩;rw [BR] at Fx IV;have HR:=hid (JY a wA);unfold JX at HR
 cases hr:gY a.data.toList with
 | error p =>
  obtain⟨l,c⟩:=p
  have hc0:(c != 0)=true:=by rw [bne_iff_ne];exact Nl hr
  rw [Ej hr];rw [hr] at HR;dsimp only at HR;clear hr
  go_enter Tryz.func39,Tryz.ntmps39
  go_wp2_with (go_at_call 71;refine HR.o.mono ?_;rintro e w1 ⟨hb1,rfl⟩;have HB1:=hid (Fx.o.trans (hb1.mono Fx.o.size));have hx:=(hb1.block _ (block_lt IV.o)).trans IV.o;have d0:=cell_of_heap hx 0;have d1:=cell_of_heap hx 1;have d2:=cell_of_heap hx 2;simp only [List.getElem?_toArray,List.getElem?_cons_zero,List.getElem?_cons_succ] at d0 d1 d2;have z0:=frozen_of_heap hx 0;have z1:=frozen_of_heap hx 1;have z2:=frozen_of_heap hx 2;clear hb1 hx)
  refine bodyPost_ret (v:=.tuple #[.pointer none,.agg #[.int .i64 1,.int .i64 l,.int .i64 c]]) (by simp [results,Tryz.results39,go_sem,d0,d1,d2];try rfl) rfl ?_
  exact⟨((HB1.o.setCell (Nat.le_refl _) _).setCell (Nat.le_refl _) _).setCell (Nat.le_refl _) _,rfl⟩
 | ok F =>
  rw [hr] at HR
  dsimp only at HR
  cases hd:mg F d.data.toList with
  | error p =>
   obtain⟨l,c⟩:=p
   have hc0:(c != 0)=true:=by rw [bne_iff_ne];exact Nc hd
   rw [El hr hd]
   have HD:Hid (∀rf W,fB W rf F→iU F→Calls Tryz.prog 72 #[.pointer (some ⟨rf,0,none⟩),.string d] W fun e w'=>Below W.heap.size W w'∧e=.returned (.tuple #[.slice none 0 0,.int .i64 l,.int .i64 c])):=hid (fun rf W hf hok=>by
    have:=vE rf F d W hf hok
    rw [hd] at this
    exact this)
   clear hr hd
   go_enter Tryz.func39,Tryz.ntmps39
   go_wp2_with (first
    | (go_at_call 71;refine HR.o.mono ?_;rintro e w1 ⟨hb1,rf,rfl,hf,hok,hrf⟩;have HB1:=hid (Fx.o.trans (hb1.mono Fx.o.size));have fV:=hid ((hb1.block _ (block_lt IV.o)).trans IV.o);have Aj:=hid hf;have jr:=hid hok;clear hb1 hf hok hrf)
    | (go_at_call 72;refine (HD.o _ _ Aj.o jr.o).mono ?_;rintro e w3 ⟨hb3,rfl⟩;have HB3:=hid (HB1.o.trans (hb3.mono HB1.o.size));have hx3:=(hb3.block _ (block_lt fV.o)).trans fV.o;have d0:=cell_of_heap hx3 0;have d1:=cell_of_heap hx3 1;have d2:=cell_of_heap hx3 2;simp only [List.getElem?_toArray,List.getElem?_cons_zero,List.getElem?_cons_succ] at d0 d1 d2;have z0:=frozen_of_heap hx3 0;have z1:=frozen_of_heap hx3 1;have z2:=frozen_of_heap hx3 2;clear hb3 hx3))
   refine bodyPost_ret (v:=.tuple #[.pointer none,.agg #[.int .i64 2,.int .i64 l,.int .i64 c]]) (by simp [results,Tryz.results39,go_sem,d0,d1,d2];try rfl) rfl ?_
   exact⟨((HB3.o.setCell (Nat.le_refl _) _).setCell (Nat.le_refl _) _).setCell (Nat.le_refl _) _,rfl⟩
  | ok es =>
   rw [Ci hr hd]
   have HD:Hid (∀rf W,fB W rf F→iU F→Calls Tryz.prog 72 #[.pointer (some ⟨rf,0,none⟩),.string d] W fun e w'=>Below W.heap.size W w'∧∃v,e=.returned (.tuple #[v,.int .i64 0,.int .i64 0])∧Eb w' v es):=hid (fun rf W hf hok=>by
    have:=vE rf F d W hf hok
    rw [hd] at this
    exact this)
   clear hr hd
   go_enter Tryz.func39,Tryz.ntmps39
   go_upto_region 7 with (first
    | (go_at_call 71;refine HR.o.mono ?_;rintro e w1 ⟨hb1,rf,rfl,hf,hok,hrf⟩;have HB1:=hid (Fx.o.trans (hb1.mono Fx.o.size));have fV:=hid ((hb1.block _ (block_lt IV.o)).trans IV.o);have Aj:=hid hf;have jr:=hid hok;clear hb1 hf hok hrf)
    | (go_at_call 72;refine (HD.o _ _ Aj.o jr.o).mono ?_;rintro e w3 ⟨hb3,v3,rfl,hq⟩;obtain⟨A3,k3,rfl⟩:=hq.slice;have HB3:=hid (HB1.o.trans (hb3.mono HB1.o.size));have ku:=hid ((hb3.block _ (block_lt fV.o)).trans fV.o);have XI:=hid (Aj.o.keep hb3);have Xq:=hid hq;clear hb3 hq))
   have uI:=hid ((Below.refl _ w3).alloc (Nat.le_refl _) (.cells #[.pointer (some ⟨rf,0,none⟩),.slice A3 es.length k3] 52));have HNz:=hid (heap_alloc_new w3 (.cells #[.pointer (some ⟨rf,0,none⟩),.slice A3 es.length k3] 52));have hx3:=ku.o;have hlt:=block_lt hx3;have d0:=cell_of_heap hx3 0;have d1:=cell_of_heap hx3 1;have d2:=cell_of_heap hx3 2
   simp only [List.getElem?_toArray,List.getElem?_cons_zero,List.getElem?_cons_succ] at d0 d1 d2
   have z0:=frozen_of_heap hx3 0;have z1:=frozen_of_heap hx3 1;have z2:=frozen_of_heap hx3 2;have Dv:=hid ((uI.o.block _ hlt).trans hx3);clear hx3
   go_wp2_with fail
   rw [bH ku.o rfl,bH ku.o rfl,bH ku.o rfl];have e0:=cell_of_heap Dv.o 0;have e1:=cell_of_heap Dv.o 1;have e2:=cell_of_heap Dv.o 2
   simp only [List.getElem?_toArray,List.getElem?_cons_zero,List.getElem?_cons_succ] at e0 e1 e2
   refine bodyPost_ret (v:=.tuple #[.pointer (some ⟨w3.heap.size,0,none⟩),.agg #[.int .i64 0,.int .i64 0,.int .i64 0]]) (by simp [results,Tryz.results39,go_sem,e0,e1,e2];try rfl) rfl ?_
   exact⟨HB3.o.trans (uI.o.mono HB3.o.size),w3.heap.size,rfl,⟨rf,_,HNz.o,XI.o.keep uI.o,Xq.o.keep uI.o⟩,HB3.o.size⟩
def IN (B:Nat) (w:World) (v:Value) (zs:List Int):Prop :=
 ∃(p:Option Addr) (c:Nat),v=.slice p zs.length c∧zs.length≤c∧(zs.length=0∨∃b off,p=some ⟨b,off,none⟩∧B≤b∧Sort.Holds (Value.int .i64) w b off zs.toArray)
theorem IN.is {B:Nat} {w:World} {v:Value} {zs:List Int} (h:IN B w v zs):IS w v zs:=by
 obtain⟨p,c,hv,hc,h⟩:=h
 refine⟨p,c,hv,hc,h.imp id ?_⟩
 rintro⟨b,off,hp,_,h2⟩
 refine⟨b,off,hp,fun j hj=>?_⟩
 have h3:=(h2 j (by simpa using hj)).1
 simpa [List.getD,hj] using h3
theorem IN.mono {B B':Nat} {w:World} {v:Value} {zs:List Int} (h:IN B w v zs) (hB:B'≤B):IN B' w v zs:=by
 obtain⟨p,c,hv,hc,h⟩:=h
 exact⟨p,c,hv,hc,h.imp id (by rintro⟨b,off,hp,h1,h2⟩;exact⟨b,off,hp,by omega,h2⟩)⟩
theorem IN.aN {B e:Nat} {w:World} {v:Value} {zs:List Int} (h:w.ownsRow B e 1 v zs.length (zs.map (Value.int .i64))):IN B w v zs:=by
 rcases h.2 with ⟨rfl,h0⟩ | ⟨g,cap,cur,rfl,hB,hg,hn,hm,hs,ht⟩
 ·exact⟨none,0,by rw [h0],by omega,.inl h0⟩
 refine⟨_,cap,rfl,hn,.inr ⟨g,0,rfl,hB,fun j hj=>?_⟩⟩
 have hj':j < zs.length:=by simpa using hj
 refine⟨?_,by simp [World.frozen?,hg]⟩
 rw [Nat.mul_one] at ht
 have h1:(cur.toList.take zs.length)[j]?=(zs.map (Value.int .i64))[j]?:=by rw [ht]
 rw [List.getElem?_take_of_lt hj'] at h1
 simp only [World.cell?,hg,Nat.zero_add];simp only [Option.isSome_none,Bool.false_eq_true,if_false]
 rw [←Array.getElem?_toList,h1]
 simp [hj']
theorem GA (B:Nat) (v:Value) (zs:List Int) (w:World) (h:IN B w v zs) (hB:B≤w.heap.size) (hsz:zs.length < 4611686018427387904) :
  Calls Tryz.prog 88 #[v] w fun e w'=>e=.returned (.tuple #[])∧IN B w' v (zs.mergeSort fun x y=>decide (x≤y))∧Below B w w':=by
 obtain⟨p,c,rfl,hc,h⟩:=h
 have hl:(zs.mergeSort fun x y=>decide (x≤y)).length=zs.length:=by simp
 rcases h with h | ⟨b,off,rfl,hb,hH⟩
 ·rw [h]
  refine (Tryz.slices_Sort_int_none p c w).mono ?_
  rintro e w' ⟨rfl,rfl⟩
  exact⟨rfl,⟨p,c,by rw [hl,h],by omega,.inl (by omega)⟩,Below.refl _ _⟩
 by_cases h0:zs.length=0
 ·rw [h0]
  refine (Tryz.slices_Sort_int_none _ c w).mono ?_
  rintro e w' ⟨rfl,rfl⟩
  exact⟨rfl,⟨_,c,by rw [hl,h0],by omega,.inl (by omega)⟩,Below.refl _ _⟩
 have hblk:b < w.heap.size:=block_lt_of_cell? w _ (hH 0 (by simp;omega)).1
 refine (Tryz.slices_Sort_int b off c zs w hH hblk hsz).mono ?_
 rintro e w' ⟨rfl,n,os,rfl⟩
 refine⟨rfl,⟨_,c,by rw [hl],by omega,.inr ⟨b,off,rfl,hb,?_⟩⟩,uO _ _ _ _ _ _ _ _ hb hblk⟩
 refine Sort.holds_grow _ _ _ _ _ _ (by simpa using hblk) ?_
 exact Sort.holds_putRow _ _ _ _ zs.toArray _ (Sort.holds_ahead _ _ _ _ _ _ hH) (by simp)
theorem TabAt.file {w:World} {tb:Nat} {F:Fl} {es:List En} (h:TabAt w tb F es):∃fb,w.cell? ⟨tb,0,none⟩=some (.pointer (some ⟨fb,0,none⟩))∧gu w fb F:=by
 obtain⟨fb,wb,a,ev,h1,h2,-⟩:=h
 exact⟨fb,by rw [cell_of_heap h1];rfl,h2⟩
theorem TabAt.lt {w:World} {tb:Nat} {F:Fl} {es:List En} (h:TabAt w tb F es):tb < w.heap.size:=by
 obtain⟨fb,wb,a,ev,h1,-⟩:=h
 exact block_lt h1
theorem Eo (F:Fl) (fs:List Int) (kind:Int) (k:Nat) (hk:k < fs.length):fO F (fs.take (k+1)) kind=fO F (fs.take k) kind++fC F kind fs[k]:=by
 unfold fO
 rw [List.take_add_one,List.getElem?_eq_getElem hk,List.flatMap_append]
 simp
theorem GD (F:Fl) (fs:List Int) (kind:Int) (k:Nat):(fO F (fs.take k) kind).length≤(fO F fs kind).length:=by
 conv=>rhs;rw [←List.take_append_drop k fs]
 unfold fO;rw [List.flatMap_append,List.length_append]
 omega
theorem Ck {F:Fl} {f kind:Int} {c:Cl} (h:iF F f=some c) (hk:c.kind=kind):fC F kind f=(List.range c.count.toNat).map (fun i:Nat=>c.first+(i:Int)):=by
 unfold fC
 rw [h];dsimp only;rw [if_pos hk]
theorem zH {F:Fl} {f kind:Int} {c:Cl} (h:iF F f=some c) (hk:c.kind≠kind):fC F kind f=[]:=by
 unfold fC
 rw [h];dsimp only;rw [if_neg hk]
theorem Cm {F:Fl} {f kind:Int} (h:iF F f=none):fC F kind f=[]:=by
 unfold fC
 rw [h]
def pQ (first:Int) (k:Nat):List Int:=(List.range k).map (fun i:Nat=>first+(i:Int))
theorem Ep (first:Int) (k:Nat):pQ first (k+1)=pQ first k++[first+(k:Int)]:=by
 unfold pQ
 rw [List.range_succ,List.map_append]
 rfl
theorem yx (first:Int) (k:Nat):(pQ first k).length=k:=by simp [pQ]
theorem AX:(Tryz.prog.info? 3).map (fun i=>(i.zero,i.size,i.bytes))=some (some (.int .i64 0),1,8):=by kernel_rfl
theorem Nn (tb:Nat) (F:Fl) (es:List En) (v:Value) (fs:List Int) (kind:Int) (w:World) (h:TabAt w tb F es) (hcl:mY F.cls F.rls) (hok:iU F) (hf:FS w v fs) (hfs:j6 fs) :
  Calls Tryz.prog 54 #[.pointer (some ⟨tb,0,none⟩),v,.int .i64 kind] w fun e w'=>∃v',e=.returned v'∧IN w.heap.size w' v' (ji F fs kind)∧Below w.heap.size w w':=by
 obtain⟨i0,hi,hz0,hz1,hz2⟩:=info_parts AX
 obtain⟨fb,ct,hfa⟩:=h.file;have htl:=h.lt;have hnb:=Gt hcl hfs.nodup kind;have hrl:=hok.rls;have hso:=yu hcl hfs.nodup kind
 have HSub:Hid (∀k,(fO F (fs.take k) kind).length≤65536):=hid (fun k=>Nat.le_trans (GD F fs kind k) (by omega))
 have hfl:=hfs.len;have PX:=hid hso;have Pp:=hid hfa;have oF:=hid hcl;have jr:=hid hok;have AO:=hid hfs;obtain⟨p,c,rfl,hcap,hs⟩:=hf;have HS:=hid hs;clear h hfa hcl hok hs hso hnb hrl hfs
 go_enter Tryz.func54,Tryz.ntmps54
 go_wp2
 go_loopw [7,9,10,11,12,15] (fun s7 _ _ _ _ x wr=>∃(k:Nat) (out:List Int),k≤fs.length∧x=.int .i64 k∧Hid (wr.ownsRow w.heap.size 3 1 s7 out.length (out.map (Value.int .i64)))∧Hid (out=fO F (fs.take k) kind)∧Hid (Below w.heap.size w wr)) (fun _ _ _ _ _ x _=>fs.length - (intOf x).toNat)
 case atStart=>exact⟨0,[],Nat.zero_le _,rfl,hid (World.ownsRow_nil _ _ _ _),hid (by simp [fO]),hid (Below.refl _ _)⟩
 case round =>
 obtain⟨k,out,hk,rfl,HO,HE,HB⟩:=hrel
 by_cases hlt:k < fs.length
 ·obtain⟨b,off,rfl,hc⟩:=HS.o.resolve_left (by omega)
  have c1:=hc k hlt;have d1:=(HB.o.cell (block_lt_of_cell? _ _ c1)).trans c1;have dt:=(HB.o.cell (p:=⟨tb,0,none⟩) htl).trans ct;have hx0:0≤fs[k]∧fs[k]≤65535:=AO.o.2.1 _ (List.getElem_mem hlt)
  have hgd:fs.getD k 0=fs[k]:=by simp [List.getD,hlt]
  have hsn:=Eo F fs kind k hlt;rw [hgd] at d1;obtain⟨x,hx⟩:∃x,fs[k]=x:=⟨_,rfl⟩;rw [hx] at d1 hx0 hsn;have OI:=hid hsn;clear hc c1 hgd hsn hx;have hcc:=xX fb F.cls x wr (Pp.o.keep HB.o).VN hx0 jr.o.cls;unfold MV at hcc;have hsz:=HB.o.size
  cases hq:F.cls.find? (fun c=>c.flag==x) with
  | none =>
   have HQ:Hid (fC F kind x=[]):=hid (Cm hq)
   rw [hq] at hcc;unfold MX xq at hcc;dsimp only [Option.getD_none,Option.isSome_none] at hcc;have HC:=hid hcc;clear hcc hq
   go_wp2_with (go_at_call 38;refine HC.o.mono ?_;rintro e w5 ⟨rfl,hb5⟩;have jK:=hid hb5;clear hb5)
   go_roundw
   case rel=>exact⟨k+1,out,by omega,by go_num,hid (own_below (own_below HO.o jK.o) ((Below.refl _ _).alloc (Nat.le_refl _) _)),hid (by rw [OI.o,HQ.o,List.append_nil];exact HE.o),hid ((HB.o.trans (jK.o.mono hsz)).alloc (Nat.le_trans hsz jK.o.size) _)⟩
   case measure=>simp [intOf];omega
  | some cl =>
   obtain⟨q1,q2,q3,-⟩:=oF.o.1 cl (List.mem_of_find?_eq_some hq)
   have hrl:=jr.o.rls;rw [hq] at hcc;unfold MX at hcc;dsimp only [Option.getD_some,Option.isSome_some] at hcc;have HC:=hid hcc
   by_cases hkd:cl.kind=kind
   ·have HQ:Hid (fC F kind x=pQ cl.first cl.count.toNat):=hid (Ck hq hkd)
    clear hcc hq
    obtain⟨n,hn⟩:∃n:Nat,cl.count=(n:Int):=⟨cl.count.toNat,by omega⟩
    have htn:cl.count.toNat=n:=by omega
    rw [htn] at HQ;rw [hn] at HC q3;have Wi:=HSub.o (k+1);rw [OI.o,HQ.o,←HE.o,List.length_append,yx] at Wi;obtain⟨cf,hcf⟩:∃cf,cl.first=cf:=⟨_,rfl⟩;rw [hcf] at HC HQ q1 q3;obtain⟨AY,Np⟩:∃x,cl.flag=x:=⟨_,rfl⟩;rw [Np] at HC;obtain⟨UE,Wj⟩:∃x,cl.cross=x:=⟨_,rfl⟩;rw [hkd,Wj] at HC;clear hcf Np Wj hkd hn htn q2
    go_wp2_with (go_at_call 38;refine HC.o.mono ?_;rintro e w5 ⟨rfl,hb5⟩;have jK:=hid hb5;clear hb5)
    have OZ:Hid ((w5.alloc (.cells #[.int .u16 AY,.int .i64 kind,.bool UE,.int .i64 cf,.int .i64 n] 99)).heap[w5.heap.size]?=some (.cells #[.int .u16 AY,.int .i64 kind,.bool UE,.int .i64 cf,.int .i64 n] 99 (0,0))):=hid (heap_alloc_new w5 _);have OO:Hid (Below w.heap.size w (w5.alloc (.cells #[.int .u16 AY,.int .i64 kind,.bool UE,.int .i64 cf,.int .i64 n] 99))):=hid ((HB.o.trans (jK.o.mono hsz)).alloc (Nat.le_trans hsz jK.o.size) _);have HO6:Hid ((w5.alloc (.cells #[.int .u16 AY,.int .i64 kind,.bool UE,.int .i64 cf,.int .i64 n] 99)).ownsRow w.heap.size 3 1 u7 out.length (out.map (Value.int .i64))):=hid (own_below (own_below HO.o jK.o) ((Below.refl _ _).alloc (Nat.le_refl _) _))
    go_loopw [7,12,38] (fun s7 _ y wx=>∃(i:Nat) (mq:List Int),i≤n∧y=.int .i64 i∧Hid (wx.ownsRow w.heap.size 3 1 s7 mq.length (mq.map (Value.int .i64)))∧Hid (mq=out++pQ cf i)∧Hid (Below w.heap.size w wx)∧Hid (wx.heap[w5.heap.size]?=some (.cells #[.int .u16 AY,.int .i64 kind,.bool UE,.int .i64 cf,.int .i64 n] 99 (0,0)))) (fun _ _ y _=>n - (intOf y).toNat)
    case atStart=>exact⟨0,out,Nat.zero_le _,rfl,HO6,hid (by simp [pQ]),OO,OZ⟩
    case round =>
    obtain⟨i,mq,hi2,rfl,fG,HE2,HB2,dL⟩:=hrel
    by_cases hlt2:i < n
    ·have hil:(i:Int) < (n:Int):=by omega
     have x3:wr.cell? ⟨w5.heap.size,3,none⟩=some (.int .i64 cf):=by rw [cell_of_heap dL.o];rfl
     have hwr:IntKind.i64.wrap (cf+(i:Int))=cf+(i:Int):=by rw [IntKind.wrap_i64];omega
     have jA:mq.length≤65536:=by rw [HE2.o,List.length_append,yx];omega
     have hsz2:=HB2.o.size
     go_wp2_with (at_builtin;refine aB rfl _ _ 39 rfl w.heap.size 3 i0 (.int .i64 0) 8 Tryz.underlying39 hi hz0 hz1 hz2 rfl _ mq.length _ rfl fG.o _ rfl rfl ?c3 ?c4 hsz2 ?_)
     case c3=>unfold maxLen;omega
     case c4=>omega
     intro gg cap w7 hown hg
     have Ed:=hid hown;have sj:=hid (jG HB2.o fG.o hg (Nat.le_refl _) hsz2)
     have sQ:Hid (w7.heap[w5.heap.size]?=some (.cells #[.int .u16 AY,.int .i64 kind,.bool UE,.int .i64 cf,.int .i64 n] 99 (0,0))):=hid ((lD hg _ (block_lt dL.o) (fun e=>by
      obtain⟨-,-,cur,g3⟩:=iK fG.o e
      rw [dL.o] at g3
      injection g3 with g3
      injection g3 with _ g5 _
      exact absurd g5 (by decide))).trans dL.o)
     clear hown hg
     go_wp2
     go_roundw
     case rel=>exact⟨i+1,mq++[cf+(i:Int)],by omega,by go_num,hid (by rw [List.length_append,List.map_append];exact Ed.o),hid (by rw [Ep,←List.append_assoc,HE2.o]),sj,sQ⟩
     case measure=>simp [intOf];omega
    obtain rfl:i=n:=by omega
    go_wp2_with fail
    go_roundw
    case rel=>exact⟨k+1,mq,by omega,by go_num,fG,hid (by rw [OI.o,HQ.o,HE2.o,HE.o]),HB2⟩
    case measure=>simp [intOf];omega
   have HQ:Hid (fC F kind x=[]):=hid (zH hq hkd);clear hcc hq q1 q2 q3 hrl
   go_wp2_with (go_at_call 38;refine HC.o.mono ?_;rintro e w5 ⟨rfl,hb5⟩;have jK:=hid hb5;clear hb5)
   go_roundw
   case rel=>exact⟨k+1,out,by omega,by go_num,hid (own_below (own_below HO.o jK.o) ((Below.refl _ _).alloc (Nat.le_refl _) _)),hid (by rw [OI.o,HQ.o,List.append_nil];exact HE.o),hid ((HB.o.trans (jK.o.mono hsz)).alloc (Nat.le_trans hsz jK.o.size) _)⟩
   case measure=>simp [intOf];omega
 obtain rfl:k=fs.length:=by omega
 have HE2:Hid (out=fO F fs kind):=hid (by have:=HE.o;rwa [List.take_length] at this)
 have hlen:out.length≤65536:=by have:=HSub.o fs.length;rw [←HE.o] at this;exact this
 go_wp2_with (go_at_call 88;refine (GA w.heap.size _ out _ (IN.aN HO.o) HB.o.size (by omega)).mono ?_;rintro e w5 ⟨rfl,hin,hb5⟩;have HI:=hid hin;have jK:=hid hb5;clear hin hb5)
 go_ret
 exact⟨_,rfl,by rw [←PX.o,←HE2.o];exact HI.o,HB.o.trans jK.o⟩
def iw (es:List En) (n:Int):Option En:=if 0≤n then es[n.toNat]? else none
def Er (o:Option En):En:=o.getD (⟨#[]⟩,[])
theorem rV {es:List En} {k:Nat} (hk:k < es.length):iw es (k:Int)=some es[k]:=by
 unfold iw
 rw [if_pos (by omega),Int.toNat_natCast,List.getElem?_eq_getElem hk]
theorem pR {es:List En} {n:Int} (h:¬(0≤n∧n < (es.length:Int))):iw es n=none:=by
 unfold iw
 split
 ·exact List.getElem?_eq_none (by omega)
 rfl
theorem Es {es:List En} (h:Ei es) (n:Int):j6 (Er (iw es n)).2:=by
 by_cases hin:0≤n∧n < (es.length:Int)
 ·obtain⟨k,rfl⟩:∃k:Nat,n=k:=⟨n.toNat,by omega⟩
  have hk:k < es.length:=by omega
  rw [rV hk]
  exact (h.each _ (List.getElem_mem hk)).1
 rw [pR hin];exact j6.nil
def Qh (o:Option En) (w:World) (e:Ending) (w':World):Prop:=∃v,e=.returned (.tuple #[.agg #[.string (Er o).1,v],.bool o.isSome])∧FN w.heap.size w' v (Er o).2∧Below w.heap.size w w'
theorem Kk (tb:Nat) (F:Fl) (es:List En) (n:Int) (w:World) (h:TabAt w tb F es) (hes:Ei es) :
  Calls Tryz.prog 13 #[.pointer (some ⟨tb,0,none⟩),.int .i64 n] w (Qh (iw es n) w):=by
 obtain⟨fb,wb,a,ev,h1,-,-,-,xs,hx1,hx2,hx3⟩:=h
 have htl:tb < w.heap.size:=block_lt h1
 have cA:w.cell? ⟨tb,15,none⟩=some ev:=by rw [cell_of_heap h1];rfl
 have hxl:xs.length=es.length:=by rw [←hx1,dz]
 have hne:=hes.len;obtain⟨-,A,cp,rfl,hcap,hcells⟩:=hx2;rw [hxl] at cA hcap;clear h1
 by_cases hin:0≤n∧n < (es.length:Int)
 ·obtain⟨k,rfl⟩:∃k:Nat,n=k:=⟨n.toNat,by omega⟩
  have hk:k < xs.length:=by omega
  obtain⟨g,o,rfl,hc⟩:=hcells.resolve_left (by omega)
  obtain⟨q0,q1⟩:=Cj xs k hk;have d0:=hc _ _ q0;have d1:=hc _ _ q1;rw [←Nat.add_assoc] at d1;have hgl:=block_lt_of_cell? _ _ d0;have hfs:=hx3 _ (List.getElem_mem hk);obtain⟨hke,hek⟩:=rU hx1 hk;have hlen:=((hes.each _ (List.getElem_mem hke)).1).len
  have HR:Hid (iw es (k:Int)=some (xs[k].1,xs[k].2.2)):=hid (by rw [rV hke,hek])
  rw [hek] at hlen;obtain⟨x,hx⟩:∃x,xs[k]=x:=⟨_,rfl⟩;obtain⟨s,u,zs⟩:=x;rw [hx] at d0 d1 hfs hlen HR;dsimp only at d0 d1 hfs hlen HR;have AO:=hid hfs;obtain⟨pu,cu,rfl,-⟩:=hfs;obtain⟨hn0,hn1⟩:=hin;obtain⟨N,hN⟩:∃N,es.length=N:=⟨_,rfl⟩;rw [hN] at cA hn1 hcap hne;clear hcells hc q0 q1 hx1 hx3 hxl hes hke hek hx hN hk
  go_enter Tryz.func13,Tryz.ntmps13
  go_upto_region 4 with fail
  obtain⟨w2,hw2⟩:∃W,(w.alloc (.cells #[.string ⟨#[]⟩,.slice none 0 0] 35)).alloc (.cells #[.string s,.slice pu zs.length cu] 35)=W:=⟨_,rfl⟩;have hb1:Below w.heap.size w (w.alloc (.cells #[.string ⟨#[]⟩,.slice none 0 0] 35)):=(Below.refl _ _).alloc (Nat.le_refl _) _
  have hs1:(w.alloc (.cells #[.string ⟨#[]⟩,.slice none 0 0] 35)).heap.size=w.heap.size+1:=by simp
  have hx1:=heap_alloc_new w (.cells #[.string ⟨#[]⟩,.slice none 0 0] 35);obtain⟨w1,hw1⟩:∃W,w.alloc (.cells #[.string ⟨#[]⟩,.slice none 0 0] 35)=W:=⟨_,rfl⟩;rw [hw1] at hw2 hb1 hs1 hx1 ⊢
  have hb2:Below w1.heap.size w1 w2:=by rw [←hw2];exact (Below.refl _ _).alloc (Nat.le_refl _) _
  have hx2:w2.heap[w.heap.size+1]?=some (.cells #[.string s,.slice pu zs.length cu] 35 (0,0)):=by rw [←hw2,←hs1];exact heap_alloc_new w1 _
  have fV:=hid ((hb2.block _ (block_lt hx1)).trans hx1);have dL:=hid hx2
  have HB2:=hid (hb1.trans (hb2.mono (by omega)))
  have HS2:Hid (w2.heap.size=w.heap.size+2):=hid (by rw [←hw2];simp [hs1])
  have oF:Hid (Calls Tryz.prog 40 #[.slice pu zs.length cu] w2 fun e w'=>∃v',e=.returned v'∧FN w2.heap.size w' v' zs∧Below w2.heap.size w2 w'):=hid (kR _ zs w2 (AO.o.keep HB2.o) (by omega))
  have e1:w2.cell? ⟨w.heap.size+1,1,none⟩=some (.slice pu zs.length cu):=by rw [cell_of_heap hx2];rfl
  first | rw [hw2] | (rw [hs1] at hw2;rw [hw2]) | skip
  try rw [hs1]
  clear hw1 hw2 hb1 hb2 hs1 hx1 hx2
  go_wp2_with (go_at_call 40;refine oF.o.mono ?_;rintro e w5 ⟨v5,rfl,hfn,hb5⟩;obtain⟨p5,c5,rfl⟩:∃p c,v5=.slice p zs.length c:=(by obtain⟨p,c,hv,-⟩:=hfn;exact⟨p,c,hv⟩);have jK:=hid (HB2.o.trans (hb5.mono HB2.o.size));have hx1:=(hb5.block _ (block_lt fV.o)).trans fV.o;have hx2:=(hb5.block _ (block_lt dL.o)).trans dL.o;have Gf:=hid hfn;have z0:=cell_of_heap hx1 0;have z1:=cell_of_heap hx1 1;have x0:=cell_of_heap hx2 0;have x1:=cell_of_heap hx2 1;simp only [List.getElem?_toArray,List.getElem?_cons_zero,List.getElem?_cons_succ] at z0 z1 x0 x1;have y0:=frozen_of_heap hx1 0;have y1:=frozen_of_heap hx1 1;have f1:=frozen_of_heap hx2 1;clear hfn hb5 hx1 hx2)
  refine bodyPost_ret (v:=.tuple #[.agg #[.string s,.slice p5 zs.length c5],.bool true]) (by simp [results,Tryz.results13,go_sem,z0,z1,x0,x1];try rfl) rfl ?_
  unfold Qh;rw [HR.o]
  refine⟨_,rfl,(Gf.o.kept (X:=[w.heap.size,w.heap.size+1]) ((((Kept.refl _ _).set _ _ _ (.inl (by simp))).set _ _ _ (.inl (by simp))).set _ _ _ (.inl (by simp))) (by intro x hx;simp at hx;have:=HS2.o;omega)).mono (by have:=HS2.o;omega),?_⟩
  exact ((jK.o.setCell (by simp) _).setCell (by simp) _).setCell (by simp) _
 have HR:=hid (pR hin);obtain⟨N,hN⟩:∃N,es.length=N:=⟨_,rfl⟩;rw [hN] at cA hin;have fV:=hid (heap_alloc_new w (.cells #[.string ⟨#[]⟩,.slice none 0 0] 35));have HB1:Hid (Below w.heap.size w (w.alloc (.cells #[.string ⟨#[]⟩,.slice none 0 0] 35))):=hid ((Below.refl _ _).alloc (Nat.le_refl _) _);clear hcells hx1 hx3 hxl hes hN hne hcap
 have key:(n < 0∨¬n < 0∧¬n < (N:Int)):=by omega
 rcases key with h0 | ⟨h0,h2⟩
 all_goals
  go_enter Tryz.func13,Tryz.ntmps13
  go_wp2_with fail
  refine bodyPost_ret (v:=.tuple #[.agg #[.string ⟨#[]⟩,.slice none 0 0],.bool false]) (by simp [results,Tryz.results13,go_sem];try rfl) rfl ?_
  unfold Qh;rw [HR.o]
  try rw [bH fV.o rfl,bH fV.o rfl]
  exact⟨_,rfl,FN.nil _ _ _ _,HB1.o⟩
def mD (F:Fl) (n:Int):Option Rl:=if 0≤n then F.rls[n.toNat]? else none
def rl0:Rl:=⟨0,0,false,⟨#[]⟩,⟨#[]⟩,⟨#[]⟩,[],0⟩
def AZ (o:Option Rl):Rl:=o.getD rl0
theorem A9 {F:Fl} {k:Nat} (hk:k < F.rls.length):mD F (k:Int)=some F.rls[k]:=by
 unfold mD
 rw [if_pos (by omega),Int.toNat_natCast,List.getElem?_eq_getElem hk]
theorem yA {F:Fl} {n:Int} (h:¬(0≤n∧n < (F.rls.length:Int))):mD F n=none:=by
 unfold mD
 split
 ·exact List.getElem?_eq_none (by omega)
 rfl
theorem GH {F:Fl} (hok:iU F) (ht:fA F) (n:Int):j6 (AZ (mD F n)).next:=by
 by_cases hin:0≤n∧n < (F.rls.length:Int)
 ·obtain⟨k,rfl⟩:∃k:Nat,n=k:=⟨n.toNat,by omega⟩
  have hk:k < F.rls.length:=by omega
  rw [A9 hk]
  exact Na hok ht _ (List.getElem_mem hk)
 rw [yA hin];exact j6.nil
def Zv (r:Rl) (v:Value):Value:=.agg #[.int .i64 r.kind,.int .u16 r.flag,.bool r.cross,.string r.strip,.string r.add,.string r.cond,v]
def Qi (o:Option Rl) (w:World) (e:Ending) (w':World):Prop:=∃v,e=.returned (.tuple #[Zv (AZ o) v,.bool o.isSome])∧FN w.heap.size w' v (AZ o).next∧Below w.heap.size w w'
theorem Nq (tb:Nat) (F:Fl) (es:List En) (n:Int) (w:World) (h:TabAt w tb F es) (hok:iU F) :
  Calls Tryz.prog 12 #[.pointer (some ⟨tb,0,none⟩),.int .i64 n] w (Qi (mD F n) w):=by
 obtain⟨fb,wb,a,ev,h1,-,-,h4,-⟩:=h
 obtain⟨rs,hx1,hx2,hx3⟩:=h4.rls;have hx2:=Rd.aN hx2;have htl:tb < w.heap.size:=block_lt h1
 have cA:w.cell? ⟨tb,14,none⟩=some a.rls:=by rw [cell_of_heap h1];rfl
 have hxl:rs.length=F.rls.length:=by rw [←hx1];simp
 have hne:=hok.rls;obtain⟨-,A,cp,hv,hcap,hcells⟩:=hx2;rw [hv,hxl] at cA;rw [hxl] at hcap;clear h1 h4 hv
 by_cases hin:0≤n∧n < (F.rls.length:Int)
 ·obtain⟨k,rfl⟩:∃k:Nat,n=k:=⟨n.toNat,by omega⟩
  have hk:k < rs.length:=by omega
  obtain⟨g,o,rfl,hc⟩:=hcells.resolve_left (by omega)
  obtain⟨q0,q1,q2,q3,q4,q5,q6⟩:=Ca rs k hk;have d0:=hc _ _ q0;have d1:=hc _ _ q1;have d2:=hc _ _ q2;have d3:=hc _ _ q3;have d4:=hc _ _ q4;have d5:=hc _ _ q5;have d6:=hc _ _ q6;rw [←Nat.add_assoc] at d1 d2 d3 d4 d5 d6;have hgl:=block_lt_of_cell? _ _ d0;have hfs:=(hx3 _ (List.getElem_mem hk)).fs
  have hke:k < F.rls.length:=by omega
  have hek:F.rls[k]=rs[k].1:=by simp [←hx1]
  have hlen:=fZ (hok.nexts _ (List.getElem_mem hke)).1 (hok.nexts _ (List.getElem_mem hke)).2
  have HR:Hid (mD F (k:Int)=some rs[k].1):=hid (by rw [A9 hke,hek])
  rw [hek] at hlen;obtain⟨x,hx⟩:∃x,rs[k]=x:=⟨_,rfl⟩;obtain⟨⟨rk,rf,rc,Kl,Km,Kn,zs,Rq⟩,u⟩:=x;rw [hx] at d0 d1 d2 d3 d4 d5 d6 hfs hlen HR;dsimp only at d0 d1 d2 d3 d4 d5 d6 hfs hlen HR;have AO:=hid hfs;obtain⟨pu,cu,rfl,-⟩:=hfs;obtain⟨hn0,hn1⟩:=hin;obtain⟨N,hN⟩:∃N,F.rls.length=N:=⟨_,rfl⟩;rw [hN] at cA hn1 hcap hne;clear hcells hc q0 q1 q2 q3 q4 q5 q6 hx1 hx3 hxl hok hke hek hx hN hk
  go_enter Tryz.func12,Tryz.ntmps12
  go_upto_region 4 with fail
  obtain⟨w2,hw2⟩:∃W,(w.alloc (.cells #[.int .i64 0,.int .u16 0,.bool false,.string ⟨#[]⟩,.string ⟨#[]⟩,.string ⟨#[]⟩,.slice none 0 0] 31)).alloc (.cells #[.int .i64 rk,.int .u16 rf,.bool rc,.string Kl,.string Km,.string Kn,.slice pu zs.length cu] 31)=W:=⟨_,rfl⟩;have hb1:Below w.heap.size w (w.alloc (.cells #[.int .i64 0,.int .u16 0,.bool false,.string ⟨#[]⟩,.string ⟨#[]⟩,.string ⟨#[]⟩,.slice none 0 0] 31)):=(Below.refl _ _).alloc (Nat.le_refl _) _
  have hs1:(w.alloc (.cells #[.int .i64 0,.int .u16 0,.bool false,.string ⟨#[]⟩,.string ⟨#[]⟩,.string ⟨#[]⟩,.slice none 0 0] 31)).heap.size=w.heap.size+1:=by simp
  have hx1:=heap_alloc_new w (.cells #[.int .i64 0,.int .u16 0,.bool false,.string ⟨#[]⟩,.string ⟨#[]⟩,.string ⟨#[]⟩,.slice none 0 0] 31);obtain⟨w1,hw1⟩:∃W,w.alloc (.cells #[.int .i64 0,.int .u16 0,.bool false,.string ⟨#[]⟩,.string ⟨#[]⟩,.string ⟨#[]⟩,.slice none 0 0] 31)=W:=⟨_,rfl⟩;rw [hw1] at hw2 hb1 hs1 hx1 ⊢
  have hb2:Below w1.heap.size w1 w2:=by rw [←hw2];exact (Below.refl _ _).alloc (Nat.le_refl _) _
  have hx2:w2.heap[w.heap.size+1]?=some (.cells #[.int .i64 rk,.int .u16 rf,.bool rc,.string Kl,.string Km,.string Kn,.slice pu zs.length cu] 31 (0,0)):=by rw [←hw2,←hs1];exact heap_alloc_new w1 _
  have fV:=hid ((hb2.block _ (block_lt hx1)).trans hx1);have dL:=hid hx2
  have HB2:=hid (hb1.trans (hb2.mono (by omega)))
  have HS2:Hid (w2.heap.size=w.heap.size+2):=hid (by rw [←hw2];simp [hs1])
  have oF:Hid (Calls Tryz.prog 40 #[.slice pu zs.length cu] w2 fun e w'=>∃v',e=.returned v'∧FN w2.heap.size w' v' zs∧Below w2.heap.size w2 w'):=hid (kR _ zs w2 (AO.o.keep HB2.o) (by omega))
  have e1:w2.cell? ⟨w.heap.size+1,6,none⟩=some (.slice pu zs.length cu):=by rw [cell_of_heap hx2];rfl
  first | rw [hw2] | (rw [hs1] at hw2;rw [hw2]) | skip
  try rw [hs1]
  clear hw1 hw2 hb1 hb2 hs1 hx1 hx2
  go_wp2_with (go_at_call 40;refine oF.o.mono ?_;rintro e w5 ⟨v5,rfl,hfn,hb5⟩;obtain⟨p5,c5,rfl⟩:∃p c,v5=.slice p zs.length c:=(by obtain⟨p,c,hv,-⟩:=hfn;exact⟨p,c,hv⟩);have jK:=hid (HB2.o.trans (hb5.mono HB2.o.size));have hx1:=(hb5.block _ (block_lt fV.o)).trans fV.o;have hx2:=(hb5.block _ (block_lt dL.o)).trans dL.o;have Gf:=hid hfn;have z0:=cell_of_heap hx1 0;have z1:=cell_of_heap hx1 1;have z2:=cell_of_heap hx1 2;have z3:=cell_of_heap hx1 3;have z4:=cell_of_heap hx1 4;have z5:=cell_of_heap hx1 5;have z6:=cell_of_heap hx1 6;have x0:=cell_of_heap hx2 0;have x1:=cell_of_heap hx2 1;have x2:=cell_of_heap hx2 2;have x3:=cell_of_heap hx2 3;have x4:=cell_of_heap hx2 4;have x5:=cell_of_heap hx2 5;have x6:=cell_of_heap hx2 6;simp only [List.getElem?_toArray,List.getElem?_cons_zero,List.getElem?_cons_succ] at z0 z1 z2 z3 z4 z5 z6 x0 x1 x2 x3 x4 x5 x6;have y0:=frozen_of_heap hx1 0;have y1:=frozen_of_heap hx1 1;have y2:=frozen_of_heap hx1 2;have y3:=frozen_of_heap hx1 3;have y4:=frozen_of_heap hx1 4;have y5:=frozen_of_heap hx1 5;have y6:=frozen_of_heap hx1 6;have f6:=frozen_of_heap hx2 6;clear hfn hb5 hx1 hx2)
  refine bodyPost_ret (v:=.tuple #[.agg #[.int .i64 rk,.int .u16 rf,.bool rc,.string Kl,.string Km,.string Kn,.slice p5 zs.length c5],.bool true]) (by simp [results,Tryz.results12,go_sem,z0,z1,z2,z3,z4,z5,z6,x0,x1,x2,x3,x4,x5,x6];try rfl) rfl ?_
  unfold Qi;rw [HR.o]
  refine⟨_,rfl,(Gf.o.kept (X:=[w.heap.size,w.heap.size+1]) (((((((((Kept.refl _ _).set _ _ _ (.inl (by simp))).set _ _ _ (.inl (by simp))).set _ _ _ (.inl (by simp))).set _ _ _ (.inl (by simp))).set _ _ _ (.inl (by simp))).set _ _ _ (.inl (by simp))).set _ _ _ (.inl (by simp))).set _ _ _ (.inl (by simp))) (by intro x hx;simp at hx;have:=HS2.o;omega)).mono (by have:=HS2.o;omega),?_⟩
  exact ((((((((jK.o.setCell (by simp) _).setCell (by simp) _).setCell (by simp) _).setCell (by simp) _).setCell (by simp) _).setCell (by simp) _).setCell (by simp) _).setCell (by simp) _)
 have HR:=hid (yA hin);obtain⟨N,hN⟩:∃N,F.rls.length=N:=⟨_,rfl⟩;rw [hN] at cA hin;have fV:=hid (heap_alloc_new w (.cells #[.int .i64 0,.int .u16 0,.bool false,.string ⟨#[]⟩,.string ⟨#[]⟩,.string ⟨#[]⟩,.slice none 0 0] 31));have HB1:Hid (Below w.heap.size w (w.alloc (.cells #[.int .i64 0,.int .u16 0,.bool false,.string ⟨#[]⟩,.string ⟨#[]⟩,.string ⟨#[]⟩,.slice none 0 0] 31))):=hid ((Below.refl _ _).alloc (Nat.le_refl _) _);clear hcells hx1 hx3 hxl hok hN hne hcap
 have key:(n < 0∨¬n < 0∧¬n < (N:Int)):=by omega
 rcases key with h0 | ⟨h0,h2⟩
 all_goals
  go_enter Tryz.func12,Tryz.ntmps12
  go_wp2_with fail
  refine bodyPost_ret (v:=.tuple #[.agg #[.int .i64 0,.int .u16 0,.bool false,.string ⟨#[]⟩,.string ⟨#[]⟩,.string ⟨#[]⟩,.slice none 0 0],.bool false]) (by simp [results,Tryz.results12,go_sem];try rfl) rfl ?_
  unfold Qi;rw [HR.o]
  try rw [bH fV.o rfl,bH fV.o rfl,bH fV.o rfl,bH fV.o rfl,bH fV.o rfl,bH fV.o rfl,bH fV.o rfl]
  exact⟨_,rfl,FN.nil _ _ _ _,HB1.o⟩
theorem Cn (tb:Nat) (F:Fl) (es:List En) (n:Int) (w:World) (h:TabAt w tb F es) (hok:iU F) (ht:fA F) (hes:Ei es) :
  Calls Tryz.prog 23 #[.pointer (some ⟨tb,0,none⟩),.int .i64 n] w fun e w'=>∃v',e=.returned v'∧IN w.heap.size w' v' (ji F ((Er (iw es n)).2) 2)∧Below w.heap.size w w':=by
 have hset:=Es hes n
 have he:=Kk tb F es n w h hes;unfold Qh at he;obtain⟨b,hb⟩:∃b,(iw es n).isSome=b:=⟨_,rfl⟩;obtain⟨x,hx⟩:∃x,Er (iw es n)=x:=⟨_,rfl⟩;rw [hb,hx] at he;rw [hx] at hset ⊢;obtain⟨s,zs⟩:=x
 skip
 dsimp only at he hset ⊢;have HE:=hid he;have HS:=hid hset;have HT:=hid h;have jr:=hid hok;have XH:=hid ht;clear he hset h hok ht hes hx hb
 go_enter Tryz.func23,Tryz.ntmps23
 go_wp2_with (first
  | (go_at_call 13;refine HE.o.mono ?_;rintro e w1 ⟨v1,rfl,hfn,hb1⟩;obtain⟨p1,c1,rfl⟩:∃p c,v1=.slice p zs.length c:=(by obtain⟨p,c,hv,-⟩:=hfn;exact⟨p,c,hv⟩);have hba:=hb1.alloc hb1.size (.cells #[.string s,.slice p1 zs.length c1] 35);have HB1:=hid hba;have Aj:=hid (hfn.fs.keep ((Below.refl _ _).alloc (Nat.le_refl _) (.cells #[.string s,.slice p1 zs.length c1] 35)));clear hfn hb1 hba)
  | (go_at_call 54;refine (Nn tb F es _ zs 2 _ (HT.o.keep HB1.o) XH.o.1 jr.o Aj.o HS.o).mono ?_;rintro e w2 ⟨v2,rfl,hin,hb2⟩;have HB2:=hid (HB1.o.trans (hb2.mono HB1.o.size));have HI:=hid (hin.mono HB1.o.size);clear hin hb2))
 go_ret
 exact⟨_,rfl,HI.o,HB2.o⟩
def IW (F:Fl) (n:Int):Bool:=match mD F n with
 | some r=>!(r.next.contains F.s0)
 | none=>false
theorem TabAt.sp {w:World} {tb:Nat} {F:Fl} {es:List En} (h:TabAt w tb F es) (k:Nat) (hk:k < 5):w.cell? ⟨tb,5+k,none⟩=some (.int .u16 (dX F k)):=by
 obtain⟨fb,wb,a,ev,h1,-⟩:=h
 rw [cell_of_heap h1]
 rcases k with _ | _ | _ | _ | _ | k<;>first | rfl | omega
theorem Nr (tb:Nat) (F:Fl) (es:List En) (n:Int) (w:World) (h:TabAt w tb F es) (hok:iU F) (ht:fA F) :
  Calls Tryz.prog 19 #[.pointer (some ⟨tb,0,none⟩),.int .i64 n] w fun e w'=>e=.returned (.bool (IW F n))∧Below w.heap.size w w':=by
 have hset:=GH hok ht n
 have he:=Nq tb F es n w h hok;unfold Qi at he
 have hc:Hid (IW F n=match mD F n with | some r=>!(r.next.contains F.s0) | none=>false):=hid rfl
 obtain⟨R,hR⟩:∃b,IW F n=b:=⟨_,rfl⟩;rw [hR] at hc ⊢
 have csp:=h.sp 0 (by decide)
 have htl:=h.lt
 cases hr:mD F n with
 | none =>
  rw [hr] at he hc
  unfold AZ Zv rl0 at he;dsimp only [Option.getD_none,Option.isSome_none] at he hc;have HE:=hid he;clear he hset h hok ht hr hR
  go_enter Tryz.func19,Tryz.ntmps19
  go_upto_region 2 with (go_at_call 12;refine HE.o.mono ?_;rintro e w1 ⟨v1,rfl,hfn,hb1⟩;obtain⟨p1,c1,rfl⟩:∃p c,v1=.slice p 0 c:=(by obtain⟨p,c,hv,-⟩:=hfn;exact⟨p,c,hv⟩);have HB1:=hid (hb1.alloc hb1.size (.cells #[.int .i64 0,.int .u16 0,.bool false,.string ⟨#[]⟩,.string ⟨#[]⟩,.string ⟨#[]⟩,.slice p1 0 c1] 31));clear hfn hb1)
  go_quiet (fail)
  go_wp2_with fail
  go_ret
  exact⟨by rw [hc.out];rfl,below_drewN HB1.o _⟩
 | some r =>
  rw [hr] at he hc hset
  obtain⟨rk,rf,rc,Kl,Km,Kn,zs,Rq⟩:=r;unfold AZ Zv at he;unfold AZ at hset;dsimp only [Option.getD_some,Option.isSome_some] at he hc hset;have HE:=hid he;have hlen:=hset.len;have lW:Hid (dX F 0=F.s0):=hid rfl;obtain⟨z,hz⟩:∃z,dX F 0=z:=⟨_,rfl⟩;rw [hz] at csp;have HZ:Hid (F.s0=z):=hid hz;clear he hset h hok ht hr hR hz lW
  go_enter Tryz.func19,Tryz.ntmps19
  go_upto_region 2 with (go_at_call 12;refine HE.o.mono ?_;rintro e w1 ⟨v1,rfl,hfn,hb1⟩;obtain⟨p1,c1,rfl⟩:∃p c,v1=.slice p zs.length c:=(by obtain⟨p,c,hv,-⟩:=hfn;exact⟨p,c,hv⟩);have HB1:=hid (hb1.alloc hb1.size (.cells #[.int .i64 rk,.int .u16 rf,.bool rc,.string Kl,.string Km,.string Kn,.slice p1 zs.length c1] 31));have Rk:=hid hfn.fs;have acM:=(hb1.cell (p:=⟨tb,5+0,none⟩) htl).trans csp;have acN:=Nat.lt_of_lt_of_le htl hb1.size;clear hfn hb1)
  have Vz:Hid (∀W,Below w1.heap.size w1 W→Calls Tryz.prog 51 #[.slice p1 zs.length c1,.int .u16 z] W fun e w'=>e=.returned (.bool (zs.contains z))∧w'=W):=hid (fun W hW=>Tq _ zs z W (Rk.o.keep hW) (by omega))
  have hal:∀x,Below w1.heap.size w1 ((w1.alloc (.cells #[.int .i64 rk,.int .u16 rf,.bool rc,.string Kl,.string Km,.string Kn,.slice p1 zs.length c1] 31)).drewN x):=fun x=>below_drewN ((Below.refl _ _).alloc (Nat.le_refl _) _) x
  have Md:=hid hal;rw [HZ.o] at hc;obtain⟨ct,hct⟩:∃b,zs.contains z=b:=⟨_,rfl⟩;rw [hct] at Vz hc;clear hal hct
  go_quiet (first | (go_at_call 51;refine Calls.quiet_of_same (Vz.o _ (Md.o _))))
  go_wp2_with fail
  go_ret
  exact⟨by rw [hc.out];rfl,below_drewN HB1.o _⟩
abbrev Wm:ByteArray:=⟨#[83,70,88,32,65,32,89,32,50,10,83,70,88,32,65,32,48,32,115,10,83,70,88,32,65,32,48,32,101,114,10]⟩
abbrev XM:ByteArray:=⟨#[49,10,100,111,47,65,10]⟩
abbrev bA:ByteArray:=⟨#[65]⟩
abbrev Zw:ByteArray:=⟨#[101,114]⟩
abbrev O0:ByteArray:=⟨#[100,111]⟩
abbrev Rs:List ByteArray:=[dY,bA,jZ,⟨#[115]⟩]
abbrev Rt:List ByteArray:=[dY,bA,jZ,Zw]
abbrev Ns:List ByteArray:=[dY,bA,⟨#[89]⟩,⟨#[50]⟩]
theorem Qj:rowsOf (aC Wm.data.toList)=[(1,Ns),(2,Rs),(3,Rt)]:=by kernel_rfl
theorem Nt:(aV Wm.data.toList).length=3:=by kernel_rfl
def Tt:Cl:=⟨65,2,true,0,2⟩
def Wn:Rl:=⟨2,65,true,⟨#[]⟩,⟨#[115]⟩,⟨#[46]⟩,[],2⟩
def Wo:Rl:=⟨2,65,true,⟨#[]⟩,Zw,⟨#[46]⟩,[],3⟩
theorem Nu:bL true jZ=.ok ⟨#[]⟩:=by
 unfold bL
 rw [if_pos ⟨rfl,rfl⟩]
theorem IX (F:Fl) (l:Int) (w:List UInt8) (s:ByteArray) (hs:s.data.toList=w) (hw:eB w=(w,[],false,0)) (ha:o8 w=.ok s):bK F Tt l [dY,bA,jZ,s]=.ok ⟨2,65,true,⟨#[]⟩,s,⟨#[46]⟩,[],l⟩:=by
 unfold bK
 rw [if_neg (by simp)]
 have h2:fieldAt [dY,bA,jZ,s] 2=jZ:=rfl;have h3:fieldAt [dY,bA,jZ,s] 3=s:=rfl
 have hc:je [dY,bA,jZ,s]=.ok ⟨#[46]⟩:=by unfold je;rw [if_neg (by simp)]
 have hn:nextR F Tt.kind [] false=.ok []:=rfl;rw [h2,h3,Nu,hs,hc];dsimp only;rw [hw];dsimp only
 rw [if_neg (by decide),ha]
 dsimp only;rw [hn]
 rfl
theorem Nv (F:Fl):bK F Tt 2 Rs=.ok Wn:=by
 refine IX F 2 [115] ⟨#[115]⟩ rfl ?_ (by kernel_rfl)
 unfold eB
 rw [lF _ _ _ (by decide) (by decide),wM]
 rfl
theorem Nw (F:Fl):bK F Tt 3 Rt=.ok Wo:=by
 refine IX F 3 [101,114] Zw rfl ?_ (by kernel_rfl)
 unfold eB
 rw [lF _ _ _ (by decide) (by decide),lF _ _ _ (by decide) (by decide),wM]
 rfl
def yZ:Fl:=⟨1,⟨#[]⟩,⟨#[]⟩,0,0,0,0,0,3,[],[],[Tt],[Wn,Wo]⟩
theorem Tv:gY Wm.data.toList=.ok yZ:=by
 rw [rH _ (by decide),Qj,Nt]
 have hk:bV (fieldAt Ns 0)=12:=by kernel_rfl
 have hfr:gq wK bA=.ok 65:=by kernel_rfl
 have hne:bI (⟨#[50]⟩:ByteArray).data.toList 1024=0:=by kernel_rfl
 have PU:aJ (⟨#[50]⟩:ByteArray).data.toList 1024=2:=by kernel_rfl
 have hcl:fK 4 ⟨wK,[(2,Rs),(3,Rt)],[],1⟩ Ns=.ok ⟨yZ,[],[],3⟩:=by
  unfold fK
  have h1:fieldAt Ns 1=bA:=rfl;have h2:fieldAt Ns 2=⟨#[89]⟩:=rfl;have h3:fieldAt Ns 3=⟨#[50]⟩:=rfl;have h0:fieldAt Ns 0=dY:=rfl;rw [h1,h2,h3,h0,hfr];dsimp only
  rw [if_neg (by simp),hne,PU,if_neg (by decide),if_neg (by decide)]
  show aO 4 _ (bZ Tt) 2 ⟨{ wK with cls:=[Tt] },[(2,Rs),(3,Rt)],[],1⟩=_
  rw [aO];dsimp only
  rw [if_pos (by decide)]
  unfold bZ;rw [Nv];dsimp only;rw [aO];dsimp only
  rw [if_pos (by decide)]
  rw [Nw]
  rfl
 have hst:iN 4 ⟨wK,[(1,Ns),(2,Rs),(3,Rt)],[],0⟩ 1 Ns [(2,Rs),(3,Rt)]=.ok ⟨yZ,[],[dY],3⟩:=by
  unfold iN
  rw [hk,if_neg (by decide),if_neg (by decide),if_neg (by decide)]
  have hh:iy 4 ⟨wK,[(2,Rs),(3,Rt)],[],1⟩ Ns 12=.ok ⟨yZ,[],[],3⟩:=by
   unfold iy
   rw [if_neg (by decide),if_neg (by decide),if_neg (by decide),if_neg (by decide),if_neg (by decide),if_neg (by decide),if_neg (by decide)]
   exact hcl
  rw [hh]
  rfl
 show pz (dS 4 3 ⟨wK,[(1,Ns),(2,Rs),(3,Rt)],[],0⟩)=_
 rw [dS];dsimp only;rw [hst]
 rfl
theorem Tw:mg yZ XM.data.toList=.ok [(O0,[65])]:=by
 have hrows:rowsOf (aC XM.data.toList)=[(1,[⟨#[49]⟩]),(2,[⟨#[100,111,47,65]⟩])]:=by kernel_rfl
 have hne:bI (⟨#[49]⟩:ByteArray).data.toList 8192=0:=by kernel_rfl
 have PU:aJ (⟨#[49]⟩:ByteArray).data.toList 8192=1:=by kernel_rfl
 have hen:jy yZ [⟨#[100,111,47,65]⟩]=.ok (O0,[65]):=by
  have hw:eB [100,111,47,65]=([100,111],[65],true,0):=by
   unfold eB
   rw [lF _ _ _ (by decide) (by decide),lF _ _ _ (by decide) (by decide),uP _ _ _ (by decide)]
   rfl
  have hfl:aQ yZ (mkS [65])=([65],0):=by
   unfold aQ
   rw [if_pos (show yZ.aI.length=0 from rfl)]
   have hn:j_ yZ.kind (mkS [65]).data.toList=[65]:=by kernel_rfl
   unfold bS
   rw [if_neg (by decide),if_neg (by decide),hn,if_neg (by decide),if_neg (by decide)]
   have hc:canon [65]=[65]:=by
    simp [canon,Lib.compact,Lib.compactUpTo]
    exact⟨0,by kernel_rfl,rfl⟩
   rw [hc]
  unfold jy
  rw [if_neg (by decide)]
  show (match eB [100,111,47,65] with | (w,rest,cut,e)=>if e≠0 then (Except.error e:Except Int En) else gy yZ w rest cut)=_
  rw [hw];dsimp only
  rw [if_neg (by decide)]
  unfold gy
  rw [if_neg (by decide),if_neg (by decide),if_neg (by decide)]
  unfold nJ
  rw [hfl,if_neg (by decide),if_pos (by decide)]
  rfl
 unfold mg
 rw [if_neg (by decide),hrows]
 unfold dh;dsimp only
 rw [if_neg (by decide)]
 have h1:fieldAt [⟨#[49]⟩] 0=⟨#[49]⟩:=rfl
 rw [h1,hne,if_neg (by decide),PU,MQ (by decide) hen,nK]
 rfl
theorem Tx:yw Wm.data.toList XM.data.toList=.ok (yZ,[(O0,[65])]):=Ci Tv Tw
theorem Ny (v u:Value) (zs:List Int) (w:World) (h:IS w v zs) (hu:IS w u zs) (hbig:zs.length≤1048576) :
  Calls Tryz.prog 26 #[v,u] w fun e w'=>e=.returned (.bool true)∧∃n,w'=w.drewN n:=by
 obtain⟨p,c,rfl,hcap,hs⟩:=h
 obtain⟨p2,c2,rfl,hcap2,hs2⟩:=hu;have hA:=hid hs;have hB:=hid hs2;clear hs hs2
 go_enter Tryz.func26,Tryz.ntmps26
 go_wp2_with fail
 go_loopw [5,13] (fun _ i wr=>∃k m:Nat,k≤zs.length∧i=.int .i64 k∧wr=w.drewN m) (fun _ i _=>zs.length - (intOf i).toNat)
 case atStart=>exact⟨0,0,Nat.zero_le _,rfl,rfl⟩
 case round =>
 obtain⟨k,m,hk,rfl,rfl⟩:=hrel
 by_cases hlt:k < zs.length
 ·obtain⟨b,off,rfl,hc⟩:=hA.out.resolve_left (by omega)
  obtain⟨b2,off2,rfl,hc2⟩:=hB.out.resolve_left (by omega)
  have c1:=hc k hlt;have c2':=hc2 k hlt;clear hc hc2
  have he:zs.getD k 0=zs[k]:=by simp [List.getD,hlt]
  rw [he] at c1 c2'
  generalize zs[k]=x at *
  clear he
  go_wp2_with fail
  go_quiet (fail)
  go_wp2_with fail
  go_roundw
  case rel=>exact⟨k+1,_,by omega,by go_num,rfl⟩
  case measure=>simp [intOf];omega
 obtain rfl:k=zs.length:=by omega
 go_wp2_with fail
 go_ret
 exact⟨rfl,_,rfl⟩
theorem UF (m0:Int) (w:World) (h0:0 < w.heap.size) (hm:w.cell? ⟨0,0,none⟩=some (.int .i64 m0)) :
  Calls Tryz.prog 11 #[] w fun e w'=>e=.returned (.bool true)∧Below w.heap.size w w':=by
 have hr:=Gy Wm XM m0 w h0 hm
 rw [Tx] at hr;unfold Qd at hr;dsimp only at hr;have HR:=hid hr
 have Yz:Hid (∀tb W,TabAt W tb yZ [(O0,[65])]→iU yZ→fA yZ→Ei [(O0,[65])]→Calls Tryz.prog 23 #[.pointer (some ⟨tb,0,none⟩),.int .i64 0] W fun e w'=>∃v',e=.returned v'∧IS w' v' [0,1]∧Below W.heap.size W w'):=hid (fun tb W h hok ht hes=>(Cn tb yZ [(O0,[65])] 0 W h hok ht hes).mono (by
  rintro e w' ⟨v',rfl,hv,hb⟩
  have e1:ji yZ (Er (iw [(O0,[65])] 0)).2 2=[0,1]:=by decide
  rw [e1] at hv
  exact⟨v',rfl,hv.is,hb⟩))
 have zC:Hid (∀tb W,TabAt W tb yZ [(O0,[65])]→iU yZ→fA yZ→Calls Tryz.prog 19 #[.pointer (some ⟨tb,0,none⟩),.int .i64 1] W fun e w'=>e=.returned (.bool true)∧Below W.heap.size W w'):=hid (fun tb W h hok ht=>(Nr tb yZ [(O0,[65])] 1 W h hok ht).mono (by
  rintro e w' ⟨rfl,hb⟩
  exact⟨by rw [show IW yZ 1=true from by decide],hb⟩))
 clear hr h0 hm
 go_enter Tryz.func11,Tryz.ntmps11
 go_upto_region 2 with (go_at_call 17;refine HR.o.mono ?_;rintro e w1 ⟨hb1,tb,rfl,ht,hok,htb⟩;have HB1:=hid (hb1.alloc hb1.size (.cells #[.int .i64 0,.int .i64 0,.int .i64 0] 60));have HT1:=hid (ht.keep ((Below.refl _ _).alloc (Nat.le_refl _) (.cells #[.int .i64 0,.int .i64 0,.int .i64 0] 60)));have jr:=hid hok;clear hb1 ht hok htb)
 go_wp2_with (first
  | (go_at_call 23;refine (Yz.o tb _ HT1.o jr.o.1 jr.o.2.1 jr.o.2.2).mono ?_;rintro e w2 ⟨v2,rfl,hv,hb2⟩;have HB2:=hid (HB1.o.trans (hb2.mono HB1.o.size));have HT2:=hid (HT1.o.keep hb2);have HV:=hid hv;clear hv hb2)
  | (go_at_call 26;refine (Ny _ _ [0,1] _ (HV.o.keep ((Below.refl _ _).alloc (Nat.le_refl _) _)) (IS.aN (CR w2 3 1 2 #[.int .i64 0,.int .i64 1] rfl (by decide))) (by simp)).mono ?_;rintro e w3 ⟨rfl,m3,hw3⟩;have HB3:Hid (Below w.heap.size w w3):=hid (by rw [hw3];exact below_drewN (HB2.o.alloc HB2.o.size _) _);have HT3:Hid (TabAt w3 tb yZ [(O0,[65])]):=hid (by rw [hw3];exact (HT2.o.keep ((Below.refl _ _).alloc (Nat.le_refl _) _)).keep (cK _));clear hw3)
  | (go_at_call 19;refine (zC.o tb _ HT3.o jr.o.1 jr.o.2.1).mono ?_;rintro e w4 ⟨rfl,hb4⟩;have fF:=hid (HB3.o.trans (hb4.mono HB3.o.size));clear hb4))
 go_ret
 exact⟨rfl,fF.o⟩
def nM (F:Fl) (fs:List Int) (kind:Int) (k:Nat):List Int:=((List.range k).filter (vG F fs kind)).map (fun n:Nat=>(n:Int))
theorem GI (F:Fl) (fs:List Int) (kind:Int):nM F fs kind F.rls.length=ji F fs kind:=rfl
theorem Et (F:Fl) (fs:List Int) (kind:Int) (k:Nat):nM F fs kind (k+1)=nM F fs kind k++(if vG F fs kind k=true then [(k:Int)] else []):=by
 unfold nM
 rw [List.range_succ,List.filter_append,List.map_append]
 congr 1
 by_cases h:vG F fs kind k=true
 ·rw [if_pos h];simp [h]
 rw [if_neg h];simp [h]
theorem mo.file {w:World} {ub:Nat} {F:Fl} {es:List En} (h:mo w ub F es):∃rf A k,∃rs:List (Rl×Value),w.cell? ⟨ub,0,none⟩=some (.pointer (some ⟨rf,0,none⟩))∧w.cell? ⟨rf,12,none⟩=some (.slice A rs.length k)∧rs.map (·.1)=F.rls∧Rd w 8 (.slice A rs.length k) rs.length (jH rs)∧(∀r∈rs,IS w r.2 r.1.next)∧fB w rf F:=by
 obtain⟨rf,v,h1,h2,-⟩:=h
 have h2':=h2;obtain⟨q,h3,-,-,-,rs,h4,h5,h6⟩:=h2
 obtain⟨A,k,hv⟩:∃A k,q.rls=.slice A rs.length k:=by obtain⟨-,A,k,hv,-,-⟩:=h5;exact⟨A,k,hv⟩
 exact⟨rf,A,k,rs,by rw [cell_of_heap h1];rfl,by rw [cell_of_heap h3,←hv];rfl,h4,by rw [←hv];exact h5,h6,h2'⟩
theorem mo.ents {w:World} {ub:Nat} {F:Fl} {es:List En} (h:mo w ub F es):∃A k,∃xs:List ug,w.cell? ⟨ub,1,none⟩=some (.slice A xs.length k)∧dU xs=es∧Rd w 2 (.slice A xs.length k) xs.length (aX xs)∧∀x∈xs,IS w x.2.1 x.2.2:=by
 obtain⟨rf,v,h1,-,xs,h3,h4,h5⟩:=h
 obtain⟨A,k,hv⟩:∃A k,v=.slice A xs.length k:=by obtain⟨-,A,k,hv,-,-⟩:=h4;exact⟨A,k,hv⟩
 subst hv
 exact⟨A,k,xs,by rw [cell_of_heap h1];rfl,h3,h4,h5⟩
theorem IS.nil (w:World):IS w (.slice none 0 0) []:=⟨none,0,rfl,Nat.le_refl _,.inl rfl⟩
theorem Tz (ub:Nat) (F:Fl) (es:List En) (n:Int) (w:World) (h:mo w ub F es) :
  Calls Tryz.prog 53 #[.pointer (some ⟨ub,0,none⟩),.int .i64 n] w fun e w'=>∃v,e=.returned v∧IS w v (Er (iw es n)).2∧w=w':=by
 obtain⟨A,cp,xs,c1,hx1,hx2,hx3⟩:=h.ents
 have hxl:xs.length=es.length:=by rw [←hx1,dz]
 obtain⟨-,A',cp',hv,hcap,hcells⟩:=hx2
 cases hv
 clear h
 by_cases hin:0≤n∧n < (xs.length:Int)
 ·obtain⟨k,rfl⟩:∃k:Nat,n=k:=⟨n.toNat,by omega⟩
  have hk:k < xs.length:=by omega
  obtain⟨g,o,rfl,hc⟩:=hcells.resolve_left (by omega)
  obtain⟨q0,q1⟩:=Cj xs k hk;have d1:=hc _ _ q1;rw [←Nat.add_assoc] at d1;have hfs:=hx3 _ (List.getElem_mem hk);obtain⟨hke,hek⟩:=rU hx1 hk
  have HR:Hid (Er (iw es (k:Int))=(xs[k].1,xs[k].2.2)):=hid (by rw [rV hke,hek];rfl)
  obtain⟨x,hx⟩:∃x,xs[k]=x:=⟨_,rfl⟩;obtain⟨s,u,zs⟩:=x;rw [hx] at d1 hfs HR;dsimp only at d1 hfs HR;have AO:=hid hfs;obtain⟨pu,cu,rfl,-⟩:=hfs;obtain⟨hn0,hn1⟩:=hin;obtain⟨N,hN⟩:∃N,xs.length=N:=⟨_,rfl⟩;rw [hN] at c1 hn1 hcap;clear hcells hc q0 q1 hx1 hx3 hxl hke hek hx hN hk
  go_enter Tryz.func53,Tryz.ntmps53
  go_wp2_with fail
  go_ret
  exact⟨_,rfl,by rw [HR.o];exact AO.o,rfl⟩
 have HR:=hid (pR (es:=es) (n:=n) (by rw [←hxl];exact hin))
 obtain⟨N,hN⟩:∃N,xs.length=N:=⟨_,rfl⟩;rw [hN] at c1 hin;clear hcells hx1 hx3 hxl hN hcap
 have key:(n < 0∨¬n < 0∧¬n < (N:Int)):=by omega
 rcases key with h0 | ⟨h0,h2⟩
 all_goals
  go_enter Tryz.func53,Tryz.ntmps53
  go_wp2_with fail
  go_ret
  exact⟨_,rfl,by rw [HR.o];exact IS.nil _,rfl⟩
def vU (fs:List Int) (flag:Int) (k:Nat):Bool:=(fs.take k).contains flag
theorem Nz {fs:List Int} {flag:Int} {k:Nat} (hn:fs.Nodup) (hk:k < fs.length) (h:fs[k]=flag):vU fs flag k=false∧vU fs flag (k+1)=true:=by
 unfold vU
 constructor
 ·rw [Bool.eq_false_iff]
  intro hc
  have hm:=List.contains_iff_mem.1 hc;obtain⟨i,hi,he⟩:=List.mem_iff_getElem.1 hm;rw [List.length_take] at hi;rw [List.getElem_take] at he
  have:=(List.nodup_iff_pairwise_ne.1 hn)
  rw [List.pairwise_iff_getElem] at this
  exact this i k (by omega) hk (by omega) (he.trans h.symm)
 rw [List.take_add_one,List.getElem?_eq_getElem hk,h]
 simp
theorem Ko {fs:List Int} {flag:Int} {k:Nat} (hk:k < fs.length) (h:fs[k]≠flag):vU fs flag (k+1)=vU fs flag k:=by
 unfold vU
 rw [List.take_add_one,List.getElem?_eq_getElem hk,Bool.eq_iff_iff]
 simp only [List.contains_iff_mem,List.mem_append]
 constructor
 ·rintro (h1 | h1)
  ·exact h1
  have h2:flag=fs[k]:=by simpa using h1
  exact absurd h2.symm h
 exact .inl
theorem GJ (F:Fl) (fs:List Int) (kind:Int) (k:Nat):(nM F fs kind k).length≤k:=by
 unfold nM
 rw [List.length_map]
 exact Nat.le_trans (List.length_filter_le _ _) (by rw [List.length_range];exact Nat.le_refl _)
def Kq (out:List Int) (b:Bool) (i:Nat):List Int:=out++(if b=true then [(i:Int)] else [])
theorem UG (ub:Nat) (F:Fl) (es:List En) (v:Value) (fs:List Int) (kind:Int) (w:World) (h:mo w ub F es) (hok:iU F) (hf:IS w v fs) (hnd:fs.Nodup) (hfl:fs.length≤65536) :
  Calls Tryz.prog 55 #[.pointer (some ⟨ub,0,none⟩),v,.int .i64 kind] w fun e w'=>∃v',e=.returned v'∧IS w' v' (ji F fs kind)∧Below w.heap.size w w':=by
 obtain⟨i0,hi,hz0,hz1,hz2⟩:=info_parts AX
 obtain⟨rf,A,cp,rs,c0,c12,hrm,hx2,hx3,-⟩:=h.file
 have hxl:rs.length=F.rls.length:=by rw [←hrm];simp
 have hrl:=hok.rls;obtain⟨-,A',cp',hv,hcap,hcells⟩:=hx2
 cases hv
 obtain⟨pf,cf,rfl,hcf,hcF⟩:=hf;have HF:=hid hcF;have HA:=hid hcells;have HI:=hid hx3;have SV:=hid hrm;have HNd:=hid hnd;have Q5:ub < w.heap.size:=block_lt_of_cell? _ _ c0;have hrl2:rf < w.heap.size:=block_lt_of_cell? _ _ c12;obtain⟨N,hN⟩:∃N,rs.length=N:=⟨_,rfl⟩;rw [hN] at c12 hcap hxl;have HN:=hid hN;have HNF:Hid (F.rls.length=N):=hid hxl.symm
 have hn:N≤65536:=by omega
 clear h hcells hcF hx3 hrm hnd hN hrl hok hxl
 go_enter Tryz.func55,Tryz.ntmps55
 go_wp2_with fail
 go_loopw [7,8,9,10] (fun s7 x _ _ wr=>∃(i:Nat) (out:List Int),i≤N∧x=.int .i64 i∧Hid (wr.ownsRow w.heap.size 3 1 s7 out.length (out.map (Value.int .i64)))∧Hid (out=nM F fs kind i)∧Hid (Below w.heap.size w wr)) (fun _ x _ _ _=>N - (intOf x).toNat)
 case atStart=>exact⟨0,[],Nat.zero_le _,rfl,hid (World.ownsRow_nil _ _ _ _),hid rfl,hid (Below.refl _ _)⟩
 case round =>
 obtain⟨i,out,hiN,rfl,HO,HE,HB⟩:=hrel
 have d0:=(HB.o.cell (p:=⟨ub,0,none⟩) Q5).trans c0;have Uy:=(HB.o.cell (p:=⟨rf,12,none⟩) hrl2).trans c12;have hsz:=HB.o.size
 by_cases hlt:i < N
 ·have hkr:i < rs.length:=by have:=HN.o;omega
  have hkF:i < F.rls.length:=by have:=HNF.o;omega
  obtain⟨g,o,rfl,hc⟩:=HA.o.resolve_left (by have:=HN.o;omega)
  obtain⟨q0,q1,q2,q3,q4,q5,q6,q7⟩:=BU rs i hkr
  have key:∀j u,(jH rs)[i*8+j]?=some u→wr.cell? ⟨g,o+i*8+j,none⟩=some u:=fun j u hj=>by
   have h:=hc _ _ hj
   rw [←Nat.add_assoc] at h
   exact (HB.o.cell (block_lt_of_cell? _ _ h)).trans h
  have e0:=key 0 _ q0;have e1:=key 1 _ q1;have e2:=key 2 _ q2;have e3:=key 3 _ q3;have e4:=key 4 _ q4;have e5:=key 5 _ q5;have e6:=key 6 _ q6;have e7:=key 7 _ q7;rw [Nat.add_zero] at e0
  have hr1:F.rls[i]=rs[i].1:=by have h:=SV.o;simp [←h]
  have hsc:=Et F fs kind i
  have hgo:vG F fs kind i=(decide (F.rls[i].kind=kind)&&fs.contains F.rls[i].flag):=by unfold vG;rw [List.getElem?_eq_getElem hkF]
  rw [hr1] at hgo;obtain⟨pu,cu,hu,-⟩:=HI.o _ (List.getElem_mem hkr);obtain⟨x,hx⟩:∃x,rs[i]=x:=⟨_,rfl⟩;obtain⟨⟨rk,rfg,rc,Kl,Km,Kn,zs,Rq⟩,u⟩:=x;rw [hx] at e0 e1 e2 e3 e4 e5 e6 e7 hu hgo;dsimp only at e0 e1 e2 e3 e4 e5 e6 e7 hu hgo
  subst hu
  have HSc:=hid hsc;have xJ:=hid hgo
  have hnk:(i:Int) < (N:Int):=by omega
  have hol:out.length≤i:=by rw [HE.o];exact GJ _ _ _ _
  clear hc q0 q1 q2 q3 q4 q5 q6 q7 key hr1 hsc hgo hx hkr hkF
  go_wp2_with fail
  have fV:=hid (heap_alloc_new wr (.cells #[.int .i64 rk,.int .i64 rfg,.bool rc,.string Kl,.string Km,.string Kn,.slice pu zs.length cu,.int .i64 Rq] 41));have HB1:=hid (HB.o.alloc HB.o.size (.cells #[.int .i64 rk,.int .i64 rfg,.bool rc,.string Kl,.string Km,.string Kn,.slice pu zs.length cu,.int .i64 Rq] 41));have jq:=hid (own_below HO.o ((Below.refl _ _).alloc (Nat.le_refl _) (.cells #[.int .i64 rk,.int .i64 rfg,.bool rc,.string Kl,.string Km,.string Kn,.slice pu zs.length cu,.int .i64 Rq] 41)));obtain⟨w1,hw1⟩:∃W,wr.alloc (.cells #[.int .i64 rk,.int .i64 rfg,.bool rc,.string Kl,.string Km,.string Kn,.slice pu zs.length cu,.int .i64 Rq] 41)=W:=⟨_,rfl⟩;obtain⟨xb,hxb⟩:∃n,wr.heap.size=n:=⟨_,rfl⟩;rw [hw1,hxb] at fV;rw [hw1] at HB1 jq ⊢;rw [hxb];clear hw1 hxb e0 e1 e2 e3 e4 e5 e6 e7 d0 Uy hsz
  by_cases hkd:rk=kind
  ·have hb2:(rk==kind)=true:=by rw [beq_iff_eq];exact hkd
   have HGk:Hid (vG F fs kind i=vU fs rfg fs.length):=hid (by rw [xJ.o,hkd];unfold vU;simp)
   clear hkd
   go_loopw [7,10] (fun s7 x wx=>∃(k:Nat) (mq:List Int),k≤fs.length∧x=.int .i64 k∧Hid (wx.ownsRow w.heap.size 3 1 s7 mq.length (mq.map (Value.int .i64)))∧Hid (mq=Kq out (vU fs rfg k) i)∧Hid (Below w.heap.size w wx)∧Hid (wx.heap[xb]?=some (.cells #[.int .i64 rk,.int .i64 rfg,.bool rc,.string Kl,.string Km,.string Kn,.slice pu zs.length cu,.int .i64 Rq] 41 (0,0)))) (fun _ x _=>fs.length - (intOf x).toNat)
   case atStart=>exact⟨0,out,Nat.zero_le _,rfl,jq,hid (by unfold Kq vU;simp),HB1,fV⟩
   case round =>
   obtain⟨k,mq,hk,rfl,fG,HE2,HB2,dL⟩:=hrel
   have z0:=cell_of_heap dL.o 0;have z1:=cell_of_heap dL.o 1
   simp only [List.getElem?_toArray,List.getElem?_cons_zero,List.getElem?_cons_succ] at z0 z1
   by_cases hkl:k < fs.length
   ·obtain⟨b2,o2,rfl,hc2⟩:=HF.o.resolve_left (by omega)
    have c2:=hc2 k hkl
    have he2:fs.getD k 0=fs[k]:=by simp [List.getD,hkl]
    rw [he2] at c2;have f2:=(HB2.o.cell (block_lt_of_cell? _ _ c2)).trans c2
    have hhit:=fun h=>Nz (flag:=rfg) HNd.o hkl h
    have hmiss:=fun h=>Ko (flag:=rfg) hkl h
    obtain⟨f,UU⟩:∃f,fs[k]=f:=⟨_,rfl⟩;rw [UU] at f2 hhit hmiss
    have hki:(k:Int) < (fs.length:Int):=by omega
    have hsz2:=HB2.o.size
    have jA:mq.length≤65537:=by rw [HE2.o];unfold Kq;rw [List.length_append];split<;>simp<;>omega
    clear hc2 c2 he2 UU
    by_cases hfx:f=rfg
    ·have hb1:(f==rfg)=true:=by rw [beq_iff_eq];exact hfx
     obtain⟨ha,hb⟩:=hhit hfx
     have zC:Hid (mq++[(i:Int)]=Kq out (vU fs rfg (k+1)) i):=hid (by rw [HE2.o,ha,hb];unfold Kq;simp)
     clear hfx hhit hmiss ha hb
     go_wp2_with fail
     go_quiet (fail)
     go_wp2_with (at_builtin;refine aB rfl _ _ 39 rfl w.heap.size 3 i0 (.int .i64 0) 8 Tryz.underlying39 hi hz0 hz1 hz2 rfl _ mq.length _ rfl (own_below fG.o (cK _)) _ rfl rfl ?c3 ?c4 hsz2 ?_)
     case c3=>unfold maxLen;omega
     case c4=>omega
     intro gg cap w7 hown hg
     have Ed:=hid hown;have sj:=hid (jG (below_drewN HB2.o _) (own_below fG.o (cK _)) hg (Nat.le_refl _) hsz2)
     have sQ:Hid (w7.heap[xb]?=some (.cells #[.int .i64 rk,.int .i64 rfg,.bool rc,.string Kl,.string Km,.string Kn,.slice pu zs.length cu,.int .i64 Rq] 41 (0,0))):=hid ((lD hg _ (block_lt dL.o) (fun e=>by
      obtain⟨-,-,cur,g3⟩:=iK fG.o e
      rw [dL.o] at g3
      injection g3 with g3
      injection g3 with _ g5 _
      exact absurd g5 (by decide))).trans dL.o)
     clear hown hg
     go_wp2
     go_roundw
     case rel=>exact⟨k+1,mq++[(i:Int)],by omega,by go_num,hid (by rw [List.length_append,List.map_append];exact Ed.o),zC,sj,sQ⟩
     case measure=>simp [intOf];omega
    have hb1:(f==rfg)=false:=by rw [beq_eq_false_iff_ne];exact hfx
    have zC:Hid (mq=Kq out (vU fs rfg (k+1)) i):=hid (by rw [hmiss hfx];exact HE2.o)
    clear hfx hhit hmiss
    go_wp2_with fail
    go_quiet (fail)
    go_wp2_with fail
    go_roundw
    case rel=>exact⟨k+1,mq,by omega,by go_num,hid (own_below fG.o (cK _)),zC,hid (below_drewN HB2.o _),hid (((cK _).block _ (block_lt dL.o)).trans dL.o)⟩
    case measure=>simp [intOf];omega
   obtain rfl:k=fs.length:=by omega
   have zC:Hid (mq=nM F fs kind (i+1)):=hid (by rw [HE2.o,HSc.o,HGk.o,HE.o];rfl)
   go_wp2_with fail
   go_roundw
   case rel=>exact⟨i+1,mq,by omega,by go_num,fG,zC,HB2⟩
   case measure=>simp [intOf];omega
  have hb2:(rk==kind)=false:=by rw [beq_eq_false_iff_ne];exact hkd
  have zC:Hid (out=nM F fs kind (i+1)):=hid (by rw [HSc.o,xJ.o,decide_eq_false hkd,HE.o];simp)
  have z0:=cell_of_heap fV.o 0
  simp only [List.getElem?_toArray,List.getElem?_cons_zero,List.getElem?_cons_succ] at z0
  clear hkd
  go_loopw [7,10] (fun s7 x wx=>x=.int .i64 0∧s7=u7∧wx=w1) (fun _ _ _=>0)
  case atStart=>exact⟨rfl,rfl,rfl⟩
  case round =>
  obtain⟨rfl,rfl,rfl⟩:=hrel
  rcases Nat.eq_zero_or_pos fs.length with h0 | h0
  all_goals
   go_wp2_with fail
   go_roundw
   case rel=>exact⟨i+1,out,by omega,by go_num,jq,zC,HB1⟩
   case measure=>simp [intOf];omega
 obtain rfl:i=N:=by omega
 have HEm:Hid (out=ji F fs kind):=hid (by rw [HE.o,←HNF.o,GI])
 go_wp2_with fail
 go_ret
 exact⟨_,rfl,by rw [←HEm.o];exact IS.aN HO.o,HB.o⟩
end Go.Proofs.YtfkblpjfknfgbaaGreatDoor
