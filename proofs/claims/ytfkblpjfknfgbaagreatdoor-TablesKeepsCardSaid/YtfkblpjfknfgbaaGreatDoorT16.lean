import Derived.BigQuiet
import Derived.Test.YtfkblpjfknfgbaaGreatDoorRows
import Derived.Test.YtfkblpjfknfgbaaGreatDoorS15
import Derived.Test.YtfkblpjfknfgbaaGreatDoorS5
import Derived.Test.YtfkblpjfknfgbaaGreatDoorS14
import Derived.Test.YtfkblpjfknfgbaaGreatDoorS13
import Derived.Test.YtfkblpjfknfgbaaGreatDoorS3
import Derived.Test.YtfkblpjfknfgbaaGreatDoorS0
import Derived.WalkLawsBesides
set_option linter.unusedVariables false
set_option linter.unusedSimpArgs false
set_option maxHeartbeats 8000000
set_option maxRecDepth 100000
open Go.Maps Go.RowKit
open Go.Lib (hid cell_of_heap frozen_of_heap)
open Go.World (block_lt_of_cell?)
namespace Go.Proofs.YtfkblpjfknfgbaaGreatDoor
theorem _root_.Go.RowKit.Hid.o {p:Prop} (h:Hid p):p:=h
theorem setCell_id {w:World} {b j t:Nat} {cs:Array Value} {v:Value} (h:w.heap[b]?=some (.cells cs t (0,0))) (hv:cs[j]?=some v):w.setCell ⟨b,j,none⟩ v=w:=by
 have e:(w.setCell ⟨b,j,none⟩ v).heap=w.heap:=by
  apply Array.ext_getElem?
  intro k
  by_cases hk:k=b
  ·subst hk
   rw [heap_setCell_same w k j cs _ _ h,h]
   congr 2
   apply Array.ext_getElem?
   intro i
   rw [Array.getElem?_setIfInBounds]
   split
   ·rename_i e;subst e
    split
    ·exact hv.symm
    rename_i hn
    rw [Array.getElem?_eq_none (by omega)] at hv;cases hv
   rfl
  rw [heap_setCell_other _ ⟨b,j,none⟩ k _ (by simpa using hk)]
 cases w
 simp only [World.setCell] at e ⊢;rw [e]
def tabA (fb wb:Nat) (F:Fl) (a:AV) (ev:Value):Array Value:=#[.pointer (some ⟨fb,0,none⟩),.pointer (some ⟨wb,0,none⟩),.int .i64 F.kind,.string F.charset,.string F.tryT,.int .u16 F.s0,.int .u16 F.s1,.int .u16 F.s2,.int .u16 F.s3,.int .u16 F.s4,.int .i64 F.least,a.reps,a.als,a.cls,a.rls,ev]
def fillT (W:World) (tb:Nat) (F:Fl) (a:AV):World:=(((((((((((((W.setCell ⟨tb,2,none⟩ (.int .i64 F.kind)).setCell ⟨tb,3,none⟩ (.string F.charset)).setCell ⟨tb,4,none⟩ (.string F.tryT)).setCell ⟨tb,5,none⟩ (.int .u16 F.s0)).setCell ⟨tb,6,none⟩ (.int .u16 F.s1)).setCell ⟨tb,7,none⟩ (.int .u16 F.s2)).setCell ⟨tb,8,none⟩ (.int .u16 F.s3)).setCell ⟨tb,9,none⟩ (.int .u16 F.s4)).setCell ⟨tb,10,none⟩ (.int .i64 F.least)).setCell ⟨tb,11,none⟩ (a.reps)).setCell ⟨tb,12,none⟩ (a.als)).setCell ⟨tb,13,none⟩ (a.cls)).setCell ⟨tb,14,none⟩ (a.rls))
theorem tab_mid {W:World} {tb fb wb:Nat} {F:Fl} {a:AV} (h:W.heap[tb]?=some (.cells #[.pointer (some ⟨fb,0,none⟩),.pointer (some ⟨wb,0,none⟩),.int .i64 0,.string ⟨#[]⟩,.string ⟨#[]⟩,.int .u16 0,.int .u16 0,.int .u16 0,.int .u16 0,.int .u16 0,.int .i64 0,.slice none 0 0,.slice none 0 0,.slice none 0 0,.slice none 0 0,.slice none 0 0] 87 (0,0))):(fillT W tb F a).heap[tb]?=some (.cells (tabA fb wb F a (.slice none 0 0)) 87 (0,0)):=by
 have h2:=heap_setCell_same _ tb 2 _ _ (.int .i64 F.kind) h
 have h3:=heap_setCell_same _ tb 3 _ _ (.string F.charset) h2;have h4:=heap_setCell_same _ tb 4 _ _ (.string F.tryT) h3;have h5:=heap_setCell_same _ tb 5 _ _ (.int .u16 F.s0) h4;have h6:=heap_setCell_same _ tb 6 _ _ (.int .u16 F.s1) h5;have h7:=heap_setCell_same _ tb 7 _ _ (.int .u16 F.s2) h6;have h8:=heap_setCell_same _ tb 8 _ _ (.int .u16 F.s3) h7;have h9:=heap_setCell_same _ tb 9 _ _ (.int .u16 F.s4) h8;have h10:=heap_setCell_same _ tb 10 _ _ (.int .i64 F.least) h9;have h11:=heap_setCell_same _ tb 11 _ _ (a.reps) h10;have h12:=heap_setCell_same _ tb 12 _ _ (a.als) h11;have h13:=heap_setCell_same _ tb 13 _ _ (a.cls) h12;have h14:=heap_setCell_same _ tb 14 _ _ (a.rls) h13;simp only [List.setIfInBounds_toArray,List.set_cons_succ,List.set_cons_zero] at h14
 exact h14
theorem tab_done {W:World} {tb fb wb:Nat} {F:Fl} {a:AV} {ev:Value} (h:W.heap[tb]?=some (.cells #[.pointer (some ⟨fb,0,none⟩),.pointer (some ⟨wb,0,none⟩),.int .i64 0,.string ⟨#[]⟩,.string ⟨#[]⟩,.int .u16 0,.int .u16 0,.int .u16 0,.int .u16 0,.int .u16 0,.int .i64 0,.slice none 0 0,.slice none 0 0,.slice none 0 0,.slice none 0 0,.slice none 0 0] 87 (0,0))):((fillT W tb F a).setCell ⟨tb,15,none⟩ ev).heap[tb]?=some (.cells (tabA fb wb F a ev) 87 (0,0)):=by
 have h15:=heap_setCell_same _ tb 15 _ _ ev (tab_mid (F:=F) (a:=a) h)
 unfold tabA at h15;simp only [List.setIfInBounds_toArray,List.set_cons_succ,List.set_cons_zero] at h15
 exact h15
theorem tab_kept (W:World) (tb:Nat) (F:Fl) (a:AV) (ev:Value):Kept [tb] W ((fillT W tb F a).setCell ⟨tb,15,none⟩ ev):=by
 unfold fillT
 exact (((((((((((((((Kept.refl _ W).set _ _ _ (.inl (by simp))).set _ _ _ (.inl (by simp))).set _ _ _ (.inl (by simp))).set _ _ _ (.inl (by simp))).set _ _ _ (.inl (by simp))).set _ _ _ (.inl (by simp))).set _ _ _ (.inl (by simp))).set _ _ _ (.inl (by simp))).set _ _ _ (.inl (by simp))).set _ _ _ (.inl (by simp))).set _ _ _ (.inl (by simp))).set _ _ _ (.inl (by simp))).set _ _ _ (.inl (by simp))).set _ _ _ (.inl (by simp)))
def TabAt (w:World) (tb:Nat) (F:Fl) (es:List En):Prop:=∃(fb wb:Nat) (a:AV) (ev:Value),w.heap[tb]?=some (.cells (tabA fb wb F a ev) 87 (0,0))∧FileAt w fb F∧WordsAt w wb es∧AffN 0 w F a∧EntR w ev es
theorem TabAt.keep {w w':World} {tb:Nat} {F:Fl} {es:List En} (h:TabAt w tb F es) (hb:Below w.heap.size w w'):TabAt w' tb F es:=by
 obtain⟨fb,wb,a,ev,h1,h2,h3,h4,h5⟩:=h
 exact⟨fb,wb,a,ev,(hb.block _ (block_lt h1)).trans h1,h2.keep hb,h3.keep hb,h4.keep hb,h5.keep hb⟩
def TabP (r:Except (Int×Int×Int) (Fl×List En)) (w:World) (e:Ending) (w':World):Prop:=Below w.heap.size w w'∧match r with
 | .error p=>e=.returned (.tuple #[.pointer none,.agg #[.int .i64 p.1,.int .i64 p.2.1,.int .i64 p.2.2]])
 | .ok p=>∃tb,e=.returned (.tuple #[.pointer (some ⟨tb,0,none⟩),.agg #[.int .i64 0,.int .i64 0,.int .i64 0]])∧TabAt w' tb p.1 p.2∧(FlOk p.1∧TbInv p.1∧EsOk p.2)∧w.heap.size≤tb
theorem so_tabRead (a d:ByteArray) (m0:Int) (w:World) (h0:0 < w.heap.size) (hm:w.cell? ⟨0,0,none⟩=some (.int .i64 m0)) :
  Calls Tryz.prog 17 #[.string a,.string d] w (TabP (tabR a.data.toList d.data.toList) w):=by
 have HM:Hid (∀W,Below w.heap.size w W→0 < W.heap.size∧W.cell? ⟨0,0,none⟩=some (.int .i64 m0)):=hid (fun W hW=>⟨Nat.lt_of_lt_of_le h0 hW.size,(hW.cell (block_lt_of_cell? _ _ hm)).trans hm⟩)
 obtain⟨wA,hwA⟩:∃W,w.alloc (.cells #[.int .i64 0,.int .i64 0,.int .i64 0] 60)=W:=⟨_,rfl⟩
 have HBA:Hid (Below w.heap.size w wA):=hid (by rw [←hwA];exact (Below.refl _ _).alloc (Nat.le_refl _) _)
 have HXA:Hid (wA.heap[w.heap.size]?=some (.cells #[.int .i64 0,.int .i64 0,.int .i64 0] 60 (0,0))):=hid (by rw [←hwA];exact heap_alloc_new w _)
 have HR:=hid (so_affRead a m0 wA (HM.o _ HBA.o).1 (HM.o _ HBA.o).2);unfold ReadP at HR;clear h0 hm;have HT:Hid (TabP (tabR a.data.toList d.data.toList) w=TabP (tabR a.data.toList d.data.toList) w):=hid rfl
 cases hr:affR a.data.toList with
 | error p =>
  rw [tabR_aff hr]
  rw [hr] at HR;dsimp only at HR;unfold fltV at HR;obtain⟨l,c⟩:=p;clear hr
  go_enter Tryz.func17,Tryz.ntmps17
  go_wp2_with (go_at_call 16;refine HR.o.mono ?_;rintro e w1 ⟨hb1,rfl⟩;have HB1:=hid (HBA.o.trans (hb1.mono HBA.o.size));have HX1:=hid ((hb1.block _ (block_lt HXA.o)).trans HXA.o);clear hb1;have hx:=(((Below.refl _ w1).alloc (Nat.le_refl _) (.cells #[.int .i64 1,.int .i64 l,.int .i64 c] 60)).block _ (block_lt HX1.o)).trans HX1.o;have d0:=cell_of_heap hx 0;have d1:=cell_of_heap hx 1;have d2:=cell_of_heap hx 2;simp only [List.getElem?_toArray,List.getElem?_cons_zero,List.getElem?_cons_succ] at d0 d1 d2;have z0:=frozen_of_heap hx 0;have z1:=frozen_of_heap hx 1;have z2:=frozen_of_heap hx 2;clear hx)
  go_region
  go_wp2_with fail
  refine bodyPost_ret (v:=.tuple #[.pointer none,.agg #[.int .i64 1,.int .i64 l,.int .i64 c]]) (by simp [results,Tryz.results17,go_sem,d0,d1,d2];try rfl) rfl ?_
  have hX:=(((HB1.o.alloc HB1.o.size (.cells #[.int .i64 1,.int .i64 l,.int .i64 c] 60)).setCell (p:=⟨w.heap.size,0,none⟩) (Nat.le_refl _) (.int .i64 1)).setCell (p:=⟨w.heap.size,1,none⟩) (Nat.le_refl _) (.int .i64 l)).setCell (p:=⟨w.heap.size,2,none⟩) (Nat.le_refl _) (.int .i64 c)
  exact⟨hX.trans (drew_below.mono hX.size),rfl⟩
 | ok F =>
  have HTb:=hid (affR_tb hr)
  rw [hr] at HR;dsimp only at HR
  cases hd:dicR F d.data.toList with
  | error p =>
   rw [tabR_dic hr hd]
   obtain⟨l,c⟩:=p
   have HD:Hid (∀fb W,FileAt W fb F→FlOk F→Below w.heap.size w W→Calls Tryz.prog 18 #[.pointer (some ⟨fb,0,none⟩),.string d] W fun e w'=>Below W.heap.size W w'∧e=.returned (.tuple #[.pointer none,.agg #[.int .i64 2,.int .i64 l,.int .i64 c]])):=hid (fun fb W hf hok hb=>by
    have:=so_dicRead fb F d m0 W hf hok (HM.o W hb).1 (HM.o W hb).2
    rw [hd] at this
    exact this)
   clear hr hd
   go_enter Tryz.func17,Tryz.ntmps17
   go_wp2_with (first
    | (go_at_call 16;refine HR.o.mono ?_;rintro e w1 ⟨hb1,fb,rfl,hf,hok,hfb⟩;have HB1:=hid (HBA.o.trans (hb1.mono HBA.o.size));have HX1:=hid ((hb1.block _ (block_lt HXA.o)).trans HXA.o);have HF1:=hid (hf.keep ((Below.refl _ _).alloc (Nat.le_refl _) (.cells #[.int .i64 0,.int .i64 0,.int .i64 0] 60)));have HOk:=hid hok;have HB2:=hid (HB1.o.alloc HB1.o.size (.cells #[.int .i64 0,.int .i64 0,.int .i64 0] 60));have HX2:=hid ((((Below.refl _ w1).alloc (Nat.le_refl _) (.cells #[.int .i64 0,.int .i64 0,.int .i64 0] 60)).block _ (block_lt HX1.o)).trans HX1.o);have HY2:=hid (heap_alloc_new w1 (.cells #[.int .i64 0,.int .i64 0,.int .i64 0] 60));clear hb1 hf hok hfb)
    | (go_at_call 18;refine (HD.o _ _ HF1.o HOk.o HB2.o).mono ?_;rintro e w3 ⟨hb3,rfl⟩;have HB3:=hid (HB2.o.trans (hb3.mono HB2.o.size));have HX3:=hid ((hb3.block _ (block_lt HX2.o)).trans HX2.o);have hy3:=(hb3.block _ (block_lt HY2.o)).trans HY2.o;have hx3:=HX3.o;have d0:=cell_of_heap hx3 0;have d1:=cell_of_heap hx3 1;have d2:=cell_of_heap hx3 2;have y0:=cell_of_heap hy3 0;have y1:=cell_of_heap hy3 1;have y2:=cell_of_heap hy3 2;simp only [List.getElem?_toArray,List.getElem?_cons_zero,List.getElem?_cons_succ] at d0 d1 d2 y0 y1 y2;have z0:=frozen_of_heap hx3 0;have z1:=frozen_of_heap hx3 1;have z2:=frozen_of_heap hx3 2;have x0:=frozen_of_heap hy3 0;have x1:=frozen_of_heap hy3 1;have x2:=frozen_of_heap hy3 2;have HL1:=hid HB1.o.size;have hlt1:w.heap.size < w1.heap.size:=block_lt HX1.o;clear hb3 hx3 hy3))
   go_region
   go_wp2_with fail
   refine bodyPost_ret (v:=.tuple #[.pointer none,.agg #[.int .i64 2,.int .i64 l,.int .i64 c]]) (by simp [results,Tryz.results17,go_sem,d0,d1,d2];try rfl) rfl ?_
   have hX:=(((((HB3.o.setCell (p:=⟨w1.heap.size,0,none⟩) HL1.o (.int .i64 2)).setCell (p:=⟨w1.heap.size,1,none⟩) HL1.o (.int .i64 l)).setCell (p:=⟨w1.heap.size,2,none⟩) HL1.o (.int .i64 c)).setCell (p:=⟨w.heap.size,0,none⟩) (Nat.le_refl _) (.int .i64 2)).setCell (p:=⟨w.heap.size,1,none⟩) (Nat.le_refl _) (.int .i64 l)).setCell (p:=⟨w.heap.size,2,none⟩) (Nat.le_refl _) (.int .i64 c)
   exact⟨hX.trans (drew_below.mono hX.size),rfl⟩
  | ok es =>
   rw [tabR_ok hr hd]
   have HD:Hid (∀fb W,FileAt W fb F→FlOk F→Below w.heap.size w W→Calls Tryz.prog 18 #[.pointer (some ⟨fb,0,none⟩),.string d] W fun e w'=>Below W.heap.size W w'∧∃wb,e=.returned (.tuple #[.pointer (some ⟨wb,0,none⟩),.agg #[.int .i64 0,.int .i64 0,.int .i64 0]])∧WordsAt w' wb es∧W.heap.size≤wb):=hid (fun fb W hf hok hb=>by
    have:=so_dicRead fb F d m0 W hf hok (HM.o W hb).1 (HM.o W hb).2
    rw [hd] at this
    exact this)
   have HEs:Hid (FlOk F→EsOk es):=hid (fun hok=>dicR_es hok HTb.o hd)
   clear hr hd
   go_enter Tryz.func17,Tryz.ntmps17
   go_upto_region 8 with (first
    | (go_at_call 16;refine HR.o.mono ?_;rintro e w1 ⟨hb1,fb,rfl,hf,hok,hfb⟩;have HB1:=hid (HBA.o.trans (hb1.mono HBA.o.size));have HX1:=hid ((hb1.block _ (block_lt HXA.o)).trans HXA.o);have HF1:=hid (hf.keep ((Below.refl _ _).alloc (Nat.le_refl _) (.cells #[.int .i64 0,.int .i64 0,.int .i64 0] 60)));have HOk:=hid hok;have HB2:=hid (HB1.o.alloc HB1.o.size (.cells #[.int .i64 0,.int .i64 0,.int .i64 0] 60));have HX2:=hid ((((Below.refl _ w1).alloc (Nat.le_refl _) (.cells #[.int .i64 0,.int .i64 0,.int .i64 0] 60)).block _ (block_lt HX1.o)).trans HX1.o);have HY2:=hid (heap_alloc_new w1 (.cells #[.int .i64 0,.int .i64 0,.int .i64 0] 60));clear hb1 hf hok hfb)
    | (go_at_call 18;refine (HD.o _ _ HF1.o HOk.o HB2.o).mono ?_;rintro e w3 ⟨hb3,wb,rfl,hwa,hwb⟩;have HB3:=hid (HB2.o.trans (hb3.mono HB2.o.size));have HX3:=hid ((hb3.block _ (block_lt HX2.o)).trans HX2.o);have HY3:=hid ((hb3.block _ (block_lt HY2.o)).trans HY2.o);have hy3:=HY3.o;have y0:=cell_of_heap hy3 0;have y1:=cell_of_heap hy3 1;have y2:=cell_of_heap hy3 2;simp only [List.getElem?_toArray,List.getElem?_cons_zero,List.getElem?_cons_succ] at y0 y1 y2;have x0:=frozen_of_heap hy3 0;have x1:=frozen_of_heap hy3 1;have x2:=frozen_of_heap hy3 2;have HF3:=hid (HF1.o.keep hb3);have HW3:=hid hwa;have HL1:=hid HB1.o.size;have hlt1:w.heap.size < w1.heap.size:=block_lt HX1.o;clear hb3 hwa hwb hy3))
   have hid3:((w3.setCell ⟨w1.heap.size,0,none⟩ (.int .i64 0)).setCell ⟨w1.heap.size,1,none⟩ (.int .i64 0)).setCell ⟨w1.heap.size,2,none⟩ (.int .i64 0)=w3:=by rw [setCell_id HY3.o rfl,setCell_id HY3.o rfl,setCell_id HY3.o rfl]
   rw [hid3];obtain⟨w4,hw4⟩:∃W,w3.alloc (.cells #[.pointer (some ⟨fb,0,none⟩),.pointer (some ⟨wb,0,none⟩),.int .i64 0,.string ⟨#[]⟩,.string ⟨#[]⟩,.int .u16 0,.int .u16 0,.int .u16 0,.int .u16 0,.int .u16 0,.int .i64 0,.slice none 0 0,.slice none 0 0,.slice none 0 0,.slice none 0 0,.slice none 0 0] 87)=W:=⟨_,rfl⟩
   have HT4:Hid (w4.heap[w3.heap.size]?=some (.cells #[.pointer (some ⟨fb,0,none⟩),.pointer (some ⟨wb,0,none⟩),.int .i64 0,.string ⟨#[]⟩,.string ⟨#[]⟩,.int .u16 0,.int .u16 0,.int .u16 0,.int .u16 0,.int .u16 0,.int .i64 0,.slice none 0 0,.slice none 0 0,.slice none 0 0,.slice none 0 0,.slice none 0 0] 87 (0,0))):=hid (by rw [←hw4];exact heap_alloc_new _ _)
   have HS4:Hid (w4.heap.size=w3.heap.size+1):=hid (by rw [←hw4];simp)
   have HB34:Hid (Below w3.heap.size w3 w4):=hid (by rw [←hw4];exact (Below.refl _ _).alloc (Nat.le_refl _) _)
   have HB4:Hid (Below w.heap.size w w4):=hid (HB3.o.trans (HB34.o.mono HB3.o.size));have HX4:=hid ((HB34.o.block _ (block_lt HX3.o)).trans HX3.o);have HF4:=hid (HF3.o.keep HB34.o);have HW4:=hid (HW3.o.keep HB34.o);have HL4:Hid (w.heap.size < w3.heap.size):=hid (block_lt HX3.o);rw [hw4];obtain⟨tb,htb⟩:∃n,w3.heap.size=n:=⟨_,rfl⟩;rw [htb] at HT4 HS4 HL4 ⊢
   have HTl:Hid (tb < w4.heap.size):=hid (by rw [HS4.o];exact Nat.lt_succ_self tb)
   have HAf:Hid (∀W,Below w4.heap.size w4 W→Calls Tryz.prog 30 #[.pointer (some ⟨fb,0,none⟩)] W fun e w'=>∃a,e=.returned (affV F a)∧AffN W.heap.size w' F a∧Below W.heap.size W w'):=hid (fun W hW=>so_Affixes fb F W (HF4.o.keep hW) HOk.o)
   have HEn:Hid (∀W,Below w4.heap.size w4 W→Calls Tryz.prog 36 #[.pointer (some ⟨wb,0,none⟩)] W fun e w'=>∃v,e=.returned v∧EntN W.heap.size w' v es∧Below W.heap.size W w'):=hid (fun W hW=>so_Entries wb es W (HW4.o.keep hW) (HEs.o HOk.o))
   have HSb:Hid (∀W,Below w4.heap.size w4 W→W.cell? ⟨tb,0,none⟩=some (.pointer (some ⟨fb,0,none⟩))∧W.cell? ⟨tb,1,none⟩=some (.pointer (some ⟨wb,0,none⟩))):=hid (fun W hW=>by
    have h:=(hW.block tb HTl.o).trans HT4.o
    exact⟨cell_of_heap h 0,cell_of_heap h 1⟩)
   have HCz:Hid (∀W,Below w4.heap.size w4 W→∀j,W.cell? ⟨tb,j,none⟩=(#[.pointer (some ⟨fb,0,none⟩),.pointer (some ⟨wb,0,none⟩),.int .i64 0,.string ⟨#[]⟩,.string ⟨#[]⟩,.int .u16 0,.int .u16 0,.int .u16 0,.int .u16 0,.int .u16 0,.int .i64 0,.slice none 0 0,.slice none 0 0,.slice none 0 0,.slice none 0 0,.slice none 0 0]:Array Value)[j]?∧W.frozen? ⟨tb,j,none⟩=false):=hid (fun W hW j=>by
    have h:=(hW.block tb HTl.o).trans HT4.o
    exact⟨cell_of_heap h j,frozen_of_heap h j⟩)
   have HTb3:=hid htb;clear hid3 hw4 htb hlt1 y0 y1 y2 x0 x1 x2
   go_cut [] from 31 to 46 (fun W=>∃(a:AV) (ev:Value),Hid (Below w.heap.size w W)∧Hid (W.heap[tb]?=some (.cells (tabA fb wb F a ev) 87 (0,0)))∧Hid (AffN 0 W F a)∧Hid (EntR W ev es)∧Hid (FileAt W fb F)∧Hid (WordsAt W wb es)∧Hid (W.heap[w.heap.size]?=some (.cells #[.int .i64 0,.int .i64 0,.int .i64 0] 60 (0,0))))
   case first =>
    refine wp_region_held_drew (S:=fun W=>W.cell? ⟨tb,0,none⟩=some (.pointer (some ⟨fb,0,none⟩))∧W.cell? ⟨tb,1,none⟩=some (.pointer (some ⟨wb,0,none⟩))) (by kernel_rfl) ?_ (fun hHeld=>?_)
    ·exact HSb.o _ drew_below
    refine tkA 0 (some 31) hHeld ?_;try simp only [put_norm]
    refine tkA 1 (some 32) hHeld ?_;try simp only [put_norm]
    refine tkA 2 (some 33) hHeld ?_;try simp only [put_norm]
    refine tkA 3 (some 34) hHeld ?_;try simp only [put_norm]
    refine tkA 4 (some 35) hHeld ?_;try simp only [put_norm]
    refine tkA 5 (some 36) hHeld ?_;try simp only [put_norm]
    refine tkA 7 (some 38) hHeld ?_;try simp only [put_norm]
    refine tkA 8 (some 39) hHeld ?_;try simp only [put_norm]
    refine tkA 9 (some 40) hHeld ?_;try simp only [put_norm]
    refine tkA 10 (some 41) hHeld ?_;try simp only [put_norm]
    refine rdy1 6 (fun K hK=>?_)
    go_simp
    refine (HAf.o _ drew_below).mono ?_
    rintro e wa ⟨⟨vr,va,vc,vl⟩,rfl,hn,hb⟩
    have HBa:Hid (Below w4.heap.size w4 wa):=hid ((drew_below (w:=w4)).trans hb);obtain⟨Ar,kr,rfl⟩:=own_slice hn.reps
    obtain⟨Aa,ka,rfl⟩:∃A k,va=.slice A F.als.length k:=by obtain⟨us,h,-⟩:=hn.als;exact own_slice h
    obtain⟨Ac,kc,rfl⟩:=own_slice hn.cls
    obtain⟨Al,nl,kl,rfl⟩:∃A n k,vl=.slice A n k:=by obtain⟨rs,-,h,-⟩:=hn.rls;obtain⟨A,k,h⟩:=own_slice h;exact⟨A,_,k,h⟩
    have HNa:=hid (hn.mono (Nat.le_trans (Nat.le_of_eq HS4.o.symm) (by simp)))
    unfold affV affA;clear hn hb
    refine hK.out _ _ ?_ (fun hHeld=>?_)
    ·exact HSb.o _ HBa.o
    clear hK K
    refine rdy1 11 (fun K hK=>?_)
    go_simp
    refine (HEn.o _ HBa.o).mono ?_
    rintro e we ⟨ve,rfl,hn,hb⟩
    have HBe:Hid (Below w4.heap.size w4 we):=hid (HBa.o.trans (hb.mono HBa.o.size))
    obtain⟨Ae,ne,ke,rfl⟩:∃A n k,ve=.slice A n k:=by obtain⟨xs,-,h,-⟩:=hn;obtain⟨A,k,h⟩:=own_slice h;exact⟨A,_,k,h⟩
    have HNe:=hid (hn.mono (Nat.le_trans (Nat.le_of_eq HS4.o.symm) HBa.o.size));have HNa2:=hid (HNa.o.keep hb);clear hn hb;have c2:=(HCz.o we HBe.o 2).1;have f2:=(HCz.o we HBe.o 2).2;have c3:=(HCz.o we HBe.o 3).1;have f3:=(HCz.o we HBe.o 3).2;have c4:=(HCz.o we HBe.o 4).1;have f4:=(HCz.o we HBe.o 4).2;have c5:=(HCz.o we HBe.o 5).1;have f5:=(HCz.o we HBe.o 5).2;have c6:=(HCz.o we HBe.o 6).1;have f6:=(HCz.o we HBe.o 6).2;have c7:=(HCz.o we HBe.o 7).1;have f7:=(HCz.o we HBe.o 7).2;have c8:=(HCz.o we HBe.o 8).1;have f8:=(HCz.o we HBe.o 8).2;have c9:=(HCz.o we HBe.o 9).1;have f9:=(HCz.o we HBe.o 9).2;have c10:=(HCz.o we HBe.o 10).1;have f10:=(HCz.o we HBe.o 10).2;have c11:=(HCz.o we HBe.o 11).1;have f11:=(HCz.o we HBe.o 11).2;have c12:=(HCz.o we HBe.o 12).1;have f12:=(HCz.o we HBe.o 12).2;have c13:=(HCz.o we HBe.o 13).1;have f13:=(HCz.o we HBe.o 13).2;have c14:=(HCz.o we HBe.o 14).1;have f14:=(HCz.o we HBe.o 14).2;have c15:=(HCz.o we HBe.o 15).1;have f15:=(HCz.o we HBe.o 15).2
    simp only [List.getElem?_toArray,List.getElem?_cons_zero,List.getElem?_cons_succ] at c2 c3 c4 c5 c6 c7 c8 c9 c10 c11 c12 c13 c14 c15
    have hM:=tab_mid (tb:=tb) (F:=F) (a:=⟨.slice Ar F.reps.length kr,.slice Aa F.als.length ka,.slice Ac F.cls.length kc,.slice Al nl kl⟩) ((HBe.o.block tb HTl.o).trans HT4.o);have hD:=tab_done (tb:=tb) (F:=F) (a:=⟨.slice Ar F.reps.length kr,.slice Aa F.als.length ka,.slice Ac F.cls.length kc,.slice Al nl kl⟩) (ev:=.slice Ae ne ke) ((HBe.o.block tb HTl.o).trans HT4.o);have HD:=hid hD;unfold fillT at hM hD;dsimp only at hM hD;have HM0:=hid (cell_of_heap hM 0);have HM1:=hid (cell_of_heap hM 1);have HD0:=hid (cell_of_heap hD 0);have HD1:=hid (cell_of_heap hD 1);clear hM hD;have hk:=tab_kept we tb F ⟨.slice Ar F.reps.length kr,.slice Aa F.als.length ka,.slice Ac F.cls.length kc,.slice Al nl kl⟩ (.slice Ae ne ke);have hb3:Below w3.heap.size w3 we:=HB34.o.trans (HBe.o.mono HB34.o.size)
    have hb4:=hk.below (B:=w3.heap.size) (Nat.le_trans (Nat.le_of_eq rfl) hb3.size) (by intro x hx;simp at hx;have:=HTb3.o;omega)
    have HP1:=hid (HB3.o.trans ((hb3.trans hb4).mono HB3.o.size))
    have HP2:=hid ((HNa2.o.kept hk (by simp)).mono (Nat.zero_le _))
    have HP3:=hid (HNe.o.kept hk (by simp)).rd
    have HP4:=hid (HF3.o.keep (hb3.trans hb4));have HP5:=hid (HW3.o.keep (hb3.trans hb4));have HP6:=hid (((hb3.trans hb4).block _ (block_lt HX3.o)).trans HX3.o);unfold fillT at HD HP1 HP2 HP3 HP4 HP5 HP6;dsimp only at HD HP1 HP2 HP3 HP4 HP5 HP6;clear hk hb3 hb4
    refine hK.out _ _ ?_ (fun hHeld=>?_)
    ·exact HSb.o _ HBe.o
    clear hK K
    refine tkA 12 (some 43) hHeld ?_;try simp only [put_norm]
    refine tkA 13 (some 44) hHeld ?_;try simp only [put_norm]
    refine rdy1 14 (fun K hK=>?_)
    go_simp
    refine hK.out _ _ ?_ (fun hHeld=>?_)
    ·exact⟨HM0.o,HM1.o⟩
    clear hK K
    refine tkA 15 (some 45) hHeld ?_;try simp only [put_norm]
    refine tkA 16 (some 46) hHeld ?_;try simp only [put_norm]
    refine rdy1 17 (fun K hK=>?_)
    go_simp
    refine hK.out _ _ ?_ (fun hHeld=>?_)
    ·exact⟨HD0.o,HD1.o⟩
    clear hK K
    refine wpAnyH_done (by kernel_rfl) ?_ _
    go_wp2_with fail
    go_meet
    exact⟨⟨.slice Ar F.reps.length kr,.slice Aa F.als.length ka,.slice Ac F.cls.length kc,.slice Al nl kl⟩,.slice Ae ne ke,HP1,HD,HP2,HP3,HP4,HP5,HP6⟩
   case rest =>
   obtain⟨a2,ev,HBf,HTf,HNf,HEf,HFf,HWf,HXf⟩:=hcut
   have d0:=cell_of_heap HXf.o 0;have d1:=cell_of_heap HXf.o 1;have d2:=cell_of_heap HXf.o 2
   simp only [List.getElem?_toArray,List.getElem?_cons_zero,List.getElem?_cons_succ] at d0 d1 d2
   have z0:=frozen_of_heap HXf.o 0;have z1:=frozen_of_heap HXf.o 1;have z2:=frozen_of_heap HXf.o 2
   go_wp2_with fail
   refine bodyPost_ret (v:=.tuple #[.pointer (some ⟨tb,0,none⟩),.agg #[.int .i64 0,.int .i64 0,.int .i64 0]]) (by simp [results,Tryz.results17,go_sem,d0,d1,d2];try rfl) rfl ?_
   rw [setCell_id HXf.o rfl,setCell_id HXf.o rfl,setCell_id HXf.o rfl]
   exact⟨HBf.o,tb,rfl,⟨fb,wb,a2,ev,HTf.o,HFf.o,HWf.o,HNf.o,HEf.o⟩,⟨HOk.o,HTb.o,HEs.o HOk.o⟩,Nat.le_of_lt HL4.o⟩
theorem piece_err {b:Bool} {s:ByteArray} {c:Int} (h:pieceR b s=.error c):c≠0:=by
 unfold pieceR at h
 split at h
 ·cases h
 split at h
 split at h
 ·cases h;assumption
 split at h
 ·cases h;decide
 split at h
 ·cases h;assumption
 cases h
theorem fresh_err {F:Fl} {s:ByteArray} {c:Int} (h:freshR F s=.error c):c≠0:=by
 unfold freshR at h
 split at h
 ·cases h;assumption
 split at h
 ·cases h;decide
 cases h
theorem rep_err {F:Fl} {l:Int} {row:List ByteArray} {c:Int} (h:repR_ F l row=.error c):c≠0:=by
 unfold repR_ at h
 split at h
 ·cases h;decide
 split at h
 ·rename_i hp;cases h;exact piece_err hp
 split at h
 ·rename_i hp;cases h;exact piece_err hp
 cases h
theorem alias_err {F:Fl} {l:Int} {row:List ByteArray} {c:Int} (h:aliasR F l row=.error c):c≠0:=by
 unfold aliasR at h
 split at h
 ·cases h;decide
 split at h
 ·cases h;assumption
 cases h
theorem addR_err {w:List UInt8} {c:Int} (h:addR w=.error c):c≠0:=by
 unfold addR at h
 split at h
 ·cases h
 split at h
 ·cases h;assumption
 cases h
theorem nextR_err {F:Fl} {k:Int} {r:List UInt8} {b:Bool} {c:Int} (h:nextR F k r b=.error c):c≠0:=by
 unfold nextR at h
 split at h
 ·split at h
  ·cases h;decide
  split at h
  ·cases h;assumption
  cases h
 cases h
theorem condOf_err {row:List ByteArray} {c:Int} (h:condOf row=.error c):c≠0:=by
 unfold condOf at h
 split at h
 ·split at h
  ·cases h;decide
  split at h
  ·rename_i hc
   cases h
   have:=condR_err hc
   simpa using this
  cases h
 cases h
theorem rule_err {cl:Cl} {F:Fl} {l:Int} {row:List ByteArray} {c:Int} (h:ruleIn cl F l row=.error c):c≠0:=by
 unfold ruleIn at h
 split at h
 ·rename_i hr
  cases h
  unfold ruleR at hr
  split at hr
  ·cases hr;decide
  split at hr
  ·rename_i hp;cases hr;exact piece_err hp
  split at hr
  split at hr
  ·cases hr;assumption
  split at hr
  ·rename_i ha;cases hr;exact addR_err ha
  split at hr
  ·rename_i hn;cases hr;exact nextR_err hn
  split at hr
  ·rename_i hc;cases hr;exact condOf_err hc
  cases hr
 cases h
theorem group_err {end_:Int} {ok:List ByteArray→Bool} {inn:Fl→Int→List ByteArray→Except Int Fl} (hi:∀F l r c,inn F l r=.error c→c≠0):∀(n:Nat) (S:Sx) (l c:Int),groupR end_ ok inn n S=.error (l,c)→c≠0
 | 0,S,l,c,h=>by rw [groupR] at h;cases h
 | n+1,S,l,c,h=>by
   rw [groupR] at h
   split at h
   ·cases h;decide
   ·split at h
    ·split at h
     ·rename_i hF;cases h;exact hi _ _ _ _ hF
     ·exact group_err hi n _ l c h
    ·cases h;decide
theorem onFl_err {l l' c:Int} {S:Sx} {x:Except Int Fl} (h:onFl l S x=.error (l',c)):x=.error c:=by
 cases x with
 | error e=>cases h;rfl
 | ok F=>cases h
theorem head_err {end_ l c:Int} {S:Sx} {row:List ByteArray} {k:Nat} (h:headR end_ S row k=.error (l,c)):c≠0:=by
 unfold headR at h
 split at h
 ·have hF:=onFl_err h
  unfold kindR at hF
  split at hF
  ·cases hF;decide
  split at hF
  ·cases hF;decide
  cases hF
 split at h
 ·have hF:=onFl_err h
  unfold setR at hF
  split at hF
  ·cases hF;decide
  cases hF
 split at h
 ·have hF:=onFl_err h
  unfold tryR at hF
  split at hF
  ·cases hF;assumption
  cases hF
 split at h
 ·have hF:=onFl_err h
  unfold specialR at hF
  split at hF
  ·rename_i hf;cases hF;exact fresh_err hf
  cases hF
 split at h
 ·have hF:=onFl_err h
  unfold leastR at hF
  split at hF
  ·cases hF;decide
  cases hF
 split at h
 ·unfold repsG at h
  split at h
  ·cases h;decide
  exact group_err (fun F l r c h=>rep_err h) _ _ _ _ h
 split at h
 ·unfold aliasG at h
  split at h
  ·cases h;decide
  split at h
  ·cases h;decide
  exact group_err (fun F l r c h=>alias_err h) _ _ _ _ h
 unfold classR at h
 split at h
 ·rename_i hf;cases h;exact fresh_err hf
 split at h
 ·cases h;decide
 split at h
 ·cases h;decide
 split at h
 ·cases h;decide
 exact group_err (fun F l r c h=>rule_err h) _ _ _ _ h
theorem read_err {end_:Int}:∀(n:Nat) (S:Sx) (l c:Int),readGo end_ n S=.error (l,c)→c≠0
 | 0,S,l,c,h=>by rw [readGo] at h;cases h
 | n+1,S,l,c,h=>by
   rw [readGo] at h
   split at h
   ·cases h
   ·split at h
    ·rename_i e hs
     cases h
     unfold stepR at hs
     split at hs
     ·cases hs;decide
     split at hs
     ·cases hs;decide
     split at hs
     ·cases hs;decide
     split at hs
     ·rename_i hh
      cases hs
      exact head_err hh
     ·cases hs
    ·exact read_err n _ l c h
theorem affR_err {t:List UInt8} {l c:Int} (h:affR t=.error (l,c)):c≠0:=by
 unfold affR at h
 split at h
 ·cases h;decide
 split at h
 ·rename_i hr;cases h;exact read_err _ _ _ _ hr
 split at h
 ·cases h;decide
 cases h
def QTabAt (w:World) (ub:Nat) (F:Fl) (es:List En):Prop:=∃(rf:Nat) (v:Value),w.heap[ub]?=some (.cells #[.pointer (some ⟨rf,0,none⟩),v] 52 (0,0))∧QFileAt w rf F∧QEnt w v es
theorem QTabAt.keep {w w':World} {ub:Nat} {F:Fl} {es:List En} (h:QTabAt w ub F es) (hb:Below w.heap.size w w'):QTabAt w' ub F es:=by
 obtain⟨rf,v,h1,h2,h3⟩:=h
 exact⟨rf,v,(hb.block _ (block_lt h1)).trans h1,h2.keep hb,h3.keep hb⟩
def QTabP (r:Except (Int×Int×Int) (Fl×List En)) (w:World) (e:Ending) (w':World):Prop:=Below w.heap.size w w'∧match r with
 | .error p=>e=.returned (.tuple #[.pointer none,.agg #[.int .i64 p.1,.int .i64 p.2.1,.int .i64 p.2.2]])
 | .ok p=>∃ub,e=.returned (.tuple #[.pointer (some ⟨ub,0,none⟩),.agg #[.int .i64 0,.int .i64 0,.int .i64 0]])∧QTabAt w' ub p.1 p.2∧w.heap.size≤ub
theorem QEnt.slice {w:World} {v:Value} {es:List En} (h:QEnt w v es):∃A cap,v=.slice A es.length cap:=by
 obtain⟨xs,h1,⟨-,A,cap,rfl,-,-⟩,-⟩:=h
 exact⟨A,cap,by rw [←h1,entAbs_len]⟩
theorem so_qtabRead (a d:ByteArray) (w:World):Calls Tryz.prog 39 #[.string a,.string d] w (QTabP (tabR a.data.toList d.data.toList) w):=by
 have HBA:Hid (Below w.heap.size w (w.alloc (.cells #[.int .i64 0,.int .i64 0,.int .i64 0] 103))):=hid ((Below.refl _ _).alloc (Nat.le_refl _) _)
 have HXA:=hid (heap_alloc_new w (.cells #[.int .i64 0,.int .i64 0,.int .i64 0] 103));obtain⟨wA,hwA⟩:∃W,w.alloc (.cells #[.int .i64 0,.int .i64 0,.int .i64 0] 103)=W:=⟨_,rfl⟩;rw [hwA] at HBA HXA;have HR:=hid (so_refAff a wA);unfold RefP at HR
 cases hr:affR a.data.toList with
 | error p =>
  obtain⟨l,c⟩:=p
  have hc0:(c != 0)=true:=by rw [bne_iff_ne];exact affR_err hr
  rw [tabR_aff hr];rw [hr] at HR;dsimp only at HR;clear hr
  go_enter Tryz.func39,Tryz.ntmps39
  go_wp2_with (go_at_call 71;refine HR.o.mono ?_;rintro e w1 ⟨hb1,rfl⟩;have HB1:=hid (HBA.o.trans (hb1.mono HBA.o.size));have hx:=(hb1.block _ (block_lt HXA.o)).trans HXA.o;have d0:=cell_of_heap hx 0;have d1:=cell_of_heap hx 1;have d2:=cell_of_heap hx 2;simp only [List.getElem?_toArray,List.getElem?_cons_zero,List.getElem?_cons_succ] at d0 d1 d2;have z0:=frozen_of_heap hx 0;have z1:=frozen_of_heap hx 1;have z2:=frozen_of_heap hx 2;clear hb1 hx)
  refine bodyPost_ret (v:=.tuple #[.pointer none,.agg #[.int .i64 1,.int .i64 l,.int .i64 c]]) (by simp [results,Tryz.results39,go_sem,d0,d1,d2];try rfl) rfl ?_
  exact⟨((HB1.o.setCell (Nat.le_refl _) _).setCell (Nat.le_refl _) _).setCell (Nat.le_refl _) _,rfl⟩
 | ok F =>
  rw [hr] at HR
  dsimp only at HR
  cases hd:dicR F d.data.toList with
  | error p =>
   obtain⟨l,c⟩:=p
   have hc0:(c != 0)=true:=by rw [bne_iff_ne];exact dicR_err hd
   rw [tabR_dic hr hd]
   have HD:Hid (∀rf W,QFileAt W rf F→FlOk F→Calls Tryz.prog 72 #[.pointer (some ⟨rf,0,none⟩),.string d] W fun e w'=>Below W.heap.size W w'∧e=.returned (.tuple #[.slice none 0 0,.int .i64 l,.int .i64 c])):=hid (fun rf W hf hok=>by
    have:=so_qdicRead rf F d W hf hok
    rw [hd] at this
    exact this)
   clear hr hd
   go_enter Tryz.func39,Tryz.ntmps39
   go_wp2_with (first
    | (go_at_call 71;refine HR.o.mono ?_;rintro e w1 ⟨hb1,rf,rfl,hf,hok,hrf⟩;have HB1:=hid (HBA.o.trans (hb1.mono HBA.o.size));have HX1:=hid ((hb1.block _ (block_lt HXA.o)).trans HXA.o);have HF1:=hid hf;have HOk:=hid hok;clear hb1 hf hok hrf)
    | (go_at_call 72;refine (HD.o _ _ HF1.o HOk.o).mono ?_;rintro e w3 ⟨hb3,rfl⟩;have HB3:=hid (HB1.o.trans (hb3.mono HB1.o.size));have hx3:=(hb3.block _ (block_lt HX1.o)).trans HX1.o;have d0:=cell_of_heap hx3 0;have d1:=cell_of_heap hx3 1;have d2:=cell_of_heap hx3 2;simp only [List.getElem?_toArray,List.getElem?_cons_zero,List.getElem?_cons_succ] at d0 d1 d2;have z0:=frozen_of_heap hx3 0;have z1:=frozen_of_heap hx3 1;have z2:=frozen_of_heap hx3 2;clear hb3 hx3))
   refine bodyPost_ret (v:=.tuple #[.pointer none,.agg #[.int .i64 2,.int .i64 l,.int .i64 c]]) (by simp [results,Tryz.results39,go_sem,d0,d1,d2];try rfl) rfl ?_
   exact⟨((HB3.o.setCell (Nat.le_refl _) _).setCell (Nat.le_refl _) _).setCell (Nat.le_refl _) _,rfl⟩
  | ok es =>
   rw [tabR_ok hr hd]
   have HD:Hid (∀rf W,QFileAt W rf F→FlOk F→Calls Tryz.prog 72 #[.pointer (some ⟨rf,0,none⟩),.string d] W fun e w'=>Below W.heap.size W w'∧∃v,e=.returned (.tuple #[v,.int .i64 0,.int .i64 0])∧QEnt w' v es):=hid (fun rf W hf hok=>by
    have:=so_qdicRead rf F d W hf hok
    rw [hd] at this
    exact this)
   clear hr hd
   go_enter Tryz.func39,Tryz.ntmps39
   go_upto_region 7 with (first
    | (go_at_call 71;refine HR.o.mono ?_;rintro e w1 ⟨hb1,rf,rfl,hf,hok,hrf⟩;have HB1:=hid (HBA.o.trans (hb1.mono HBA.o.size));have HX1:=hid ((hb1.block _ (block_lt HXA.o)).trans HXA.o);have HF1:=hid hf;have HOk:=hid hok;clear hb1 hf hok hrf)
    | (go_at_call 72;refine (HD.o _ _ HF1.o HOk.o).mono ?_;rintro e w3 ⟨hb3,v3,rfl,hq⟩;obtain⟨A3,k3,rfl⟩:=hq.slice;have HB3:=hid (HB1.o.trans (hb3.mono HB1.o.size));have HX3:=hid ((hb3.block _ (block_lt HX1.o)).trans HX1.o);have HF3:=hid (HF1.o.keep hb3);have HQ3:=hid hq;clear hb3 hq))
   have HBz:=hid ((Below.refl _ w3).alloc (Nat.le_refl _) (.cells #[.pointer (some ⟨rf,0,none⟩),.slice A3 es.length k3] 52));have HNz:=hid (heap_alloc_new w3 (.cells #[.pointer (some ⟨rf,0,none⟩),.slice A3 es.length k3] 52));have hx3:=HX3.o;have hlt:=block_lt hx3;have d0:=cell_of_heap hx3 0;have d1:=cell_of_heap hx3 1;have d2:=cell_of_heap hx3 2
   simp only [List.getElem?_toArray,List.getElem?_cons_zero,List.getElem?_cons_succ] at d0 d1 d2
   have z0:=frozen_of_heap hx3 0;have z1:=frozen_of_heap hx3 1;have z2:=frozen_of_heap hx3 2;have HX4:=hid ((HBz.o.block _ hlt).trans hx3);clear hx3
   go_wp2_with fail
   rw [setCell_id HX3.o rfl,setCell_id HX3.o rfl,setCell_id HX3.o rfl];have e0:=cell_of_heap HX4.o 0;have e1:=cell_of_heap HX4.o 1;have e2:=cell_of_heap HX4.o 2
   simp only [List.getElem?_toArray,List.getElem?_cons_zero,List.getElem?_cons_succ] at e0 e1 e2
   refine bodyPost_ret (v:=.tuple #[.pointer (some ⟨w3.heap.size,0,none⟩),.agg #[.int .i64 0,.int .i64 0,.int .i64 0]]) (by simp [results,Tryz.results39,go_sem,e0,e1,e2];try rfl) rfl ?_
   exact⟨HB3.o.trans (HBz.o.mono HB3.o.size),w3.heap.size,rfl,⟨rf,_,HNz.o,HF3.o.keep HBz.o,HQ3.o.keep HBz.o⟩,HB3.o.size⟩
def IN (B:Nat) (w:World) (v:Value) (zs:List Int):Prop :=
 ∃(p:Option Addr) (c:Nat),v=.slice p zs.length c∧zs.length≤c∧(zs.length=0∨∃b off,p=some ⟨b,off,none⟩∧B≤b∧Sort.Holds (Value.int .i64) w b off zs.toArray)
theorem IN.is {B:Nat} {w:World} {v:Value} {zs:List Int} (h:IN B w v zs):IS w v zs:=by
 obtain⟨p,c,hv,hc,h⟩:=h
 refine⟨p,c,hv,hc,h.imp id ?_⟩
 rintro⟨b,off,hp,_,h2⟩
 refine⟨b,off,hp,fun j hj=>?_⟩
 have h3:=(h2 j (by simpa using hj)).1
 simpa [List.getD,hj] using h3
theorem IN.mono {B B':Nat} {w:World} {v:Value} {zs:List Int} (h:IN B w v zs) (hB:B'≤B):IN B' w v zs:=by
 obtain⟨p,c,hv,hc,h⟩:=h
 exact⟨p,c,hv,hc,h.imp id (by rintro⟨b,off,hp,h1,h2⟩;exact⟨b,off,hp,by omega,h2⟩)⟩
theorem IN.of_own {B e:Nat} {w:World} {v:Value} {zs:List Int} (h:w.ownsRow B e 1 v zs.length (zs.map (Value.int .i64))):IN B w v zs:=by
 rcases h.2 with ⟨rfl,h0⟩ | ⟨g,cap,cur,rfl,hB,hg,hn,hm,hs,ht⟩
 ·exact⟨none,0,by rw [h0],by omega,.inl h0⟩
 refine⟨_,cap,rfl,hn,.inr ⟨g,0,rfl,hB,fun j hj=>?_⟩⟩
 have hj':j < zs.length:=by simpa using hj
 refine⟨?_,by simp [World.frozen?,hg]⟩
 rw [Nat.mul_one] at ht
 have h1:(cur.toList.take zs.length)[j]?=(zs.map (Value.int .i64))[j]?:=by rw [ht]
 rw [List.getElem?_take_of_lt hj'] at h1
 simp only [World.cell?,hg,Nat.zero_add];simp only [Option.isSome_none,Bool.false_eq_true,if_false]
 rw [←Array.getElem?_toList,h1]
 simp [hj']
theorem so_Sort_IN (B:Nat) (v:Value) (zs:List Int) (w:World) (h:IN B w v zs) (hB:B≤w.heap.size) (hsz:zs.length < 4611686018427387904) :
  Calls Tryz.prog 88 #[v] w fun e w'=>e=.returned (.tuple #[])∧IN B w' v (zs.mergeSort fun x y=>decide (x≤y))∧Below B w w':=by
 obtain⟨p,c,rfl,hc,h⟩:=h
 have hl:(zs.mergeSort fun x y=>decide (x≤y)).length=zs.length:=by simp
 rcases h with h | ⟨b,off,rfl,hb,hH⟩
 ·rw [h]
  refine (Tryz.slices_Sort_int_none p c w).mono ?_
  rintro e w' ⟨rfl,rfl⟩
  exact⟨rfl,⟨p,c,by rw [hl,h],by omega,.inl (by omega)⟩,Below.refl _ _⟩
 by_cases h0:zs.length=0
 ·rw [h0]
  refine (Tryz.slices_Sort_int_none _ c w).mono ?_
  rintro e w' ⟨rfl,rfl⟩
  exact⟨rfl,⟨_,c,by rw [hl,h0],by omega,.inl (by omega)⟩,Below.refl _ _⟩
 have hblk:b < w.heap.size:=block_lt_of_cell? w _ (hH 0 (by simp;omega)).1
 refine (Tryz.slices_Sort_int b off c zs w hH hblk hsz).mono ?_
 rintro e w' ⟨rfl,n,os,rfl⟩
 refine⟨rfl,⟨_,c,by rw [hl],by omega,.inr ⟨b,off,rfl,hb,?_⟩⟩,below_row _ _ _ _ _ _ _ _ hb hblk⟩
 refine Sort.holds_grow _ _ _ _ _ _ (by simpa using hblk) ?_
 exact Sort.holds_putRow _ _ _ _ zs.toArray _ (Sort.holds_ahead _ _ _ _ _ _ hH) (by simp)
theorem TabAt.file {w:World} {tb:Nat} {F:Fl} {es:List En} (h:TabAt w tb F es):∃fb,w.cell? ⟨tb,0,none⟩=some (.pointer (some ⟨fb,0,none⟩))∧FileAt w fb F:=by
 obtain⟨fb,wb,a,ev,h1,h2,-⟩:=h
 exact⟨fb,by rw [cell_of_heap h1];rfl,h2⟩
theorem TabAt.lt {w:World} {tb:Nat} {F:Fl} {es:List En} (h:TabAt w tb F es):tb < w.heap.size:=by
 obtain⟨fb,wb,a,ev,h1,-⟩:=h
 exact block_lt h1
theorem namedB_snoc (F:Fl) (fs:List Int) (kind:Int) (k:Nat) (hk:k < fs.length):namedB F (fs.take (k+1)) kind=namedB F (fs.take k) kind++clRange F kind fs[k]:=by
 unfold namedB
 rw [List.take_add_one,List.getElem?_eq_getElem hk,List.flatMap_append]
 simp
theorem namedB_sub (F:Fl) (fs:List Int) (kind:Int) (k:Nat):(namedB F (fs.take k) kind).length≤(namedB F fs kind).length:=by
 conv=>rhs;rw [←List.take_append_drop k fs]
 unfold namedB;rw [List.flatMap_append,List.length_append]
 omega
theorem clRange_some {F:Fl} {f kind:Int} {c:Cl} (h:findC F f=some c) (hk:c.kind=kind):clRange F kind f=(List.range c.count.toNat).map (fun i:Nat=>c.first+(i:Int)):=by
 unfold clRange
 rw [h];dsimp only;rw [if_pos hk]
theorem clRange_other {F:Fl} {f kind:Int} {c:Cl} (h:findC F f=some c) (hk:c.kind≠kind):clRange F kind f=[]:=by
 unfold clRange
 rw [h];dsimp only;rw [if_neg hk]
theorem clRange_none {F:Fl} {f kind:Int} (h:findC F f=none):clRange F kind f=[]:=by
 unfold clRange
 rw [h]
def clTake (first:Int) (k:Nat):List Int:=(List.range k).map (fun i:Nat=>first+(i:Int))
theorem clTake_succ (first:Int) (k:Nat):clTake first (k+1)=clTake first k++[first+(k:Int)]:=by
 unfold clTake
 rw [List.range_succ,List.map_append]
 rfl
theorem clTake_len (first:Int) (k:Nat):(clTake first k).length=k:=by simp [clTake]
theorem int_info3:(Tryz.prog.info? 3).map (fun i=>(i.zero,i.size,i.bytes))=some (some (.int .i64 0),1,8):=by kernel_rfl
theorem so_named (tb:Nat) (F:Fl) (es:List En) (v:Value) (fs:List Int) (kind:Int) (w:World) (h:TabAt w tb F es) (hcl:ClInv F.cls F.rls) (hok:FlOk F) (hf:FS w v fs) (hfs:SetOk fs) :
  Calls Tryz.prog 54 #[.pointer (some ⟨tb,0,none⟩),v,.int .i64 kind] w fun e w'=>∃v',e=.returned v'∧IN w.heap.size w' v' (namedR F fs kind)∧Below w.heap.size w w':=by
 obtain⟨i0,hi,hz0,hz1,hz2⟩:=info_parts int_info3
 obtain⟨fb,ct,hfa⟩:=h.file;have htl:=h.lt;have hnb:=namedB_len hcl hfs.nodup kind;have hrl:=hok.rls;have hso:=named_sort hcl hfs.nodup kind
 have HSub:Hid (∀k,(namedB F (fs.take k) kind).length≤65536):=hid (fun k=>Nat.le_trans (namedB_sub F fs kind k) (by omega))
 have hfl:=hfs.len;have HSo:=hid hso;have HFa:=hid hfa;have HCl:=hid hcl;have HOk:=hid hok;have HFs:=hid hfs;obtain⟨p,c,rfl,hcap,hs⟩:=hf;have HS:=hid hs;clear h hfa hcl hok hs hso hnb hrl hfs
 go_enter Tryz.func54,Tryz.ntmps54
 go_wp2
 go_loopw [7,9,10,11,12,15] (fun s7 _ _ _ _ x wr=>∃(k:Nat) (out:List Int),k≤fs.length∧x=.int .i64 k∧Hid (wr.ownsRow w.heap.size 3 1 s7 out.length (out.map (Value.int .i64)))∧Hid (out=namedB F (fs.take k) kind)∧Hid (Below w.heap.size w wr)) (fun _ _ _ _ _ x _=>fs.length - (intOf x).toNat)
 case atStart=>exact⟨0,[],Nat.zero_le _,rfl,hid (World.ownsRow_nil _ _ _ _),hid (by simp [namedB]),hid (Below.refl _ _)⟩
 case round =>
 obtain⟨k,out,hk,rfl,HO,HE,HB⟩:=hrel
 by_cases hlt:k < fs.length
 ·obtain⟨b,off,rfl,hc⟩:=HS.o.resolve_left (by omega)
  have c1:=hc k hlt;have d1:=(HB.o.cell (block_lt_of_cell? _ _ c1)).trans c1;have dt:=(HB.o.cell (p:=⟨tb,0,none⟩) htl).trans ct;have hx0:0≤fs[k]∧fs[k]≤65535:=HFs.o.2.1 _ (List.getElem_mem hlt)
  have hgd:fs.getD k 0=fs[k]:=by simp [List.getD,hlt]
  have hsn:=namedB_snoc F fs kind k hlt;rw [hgd] at d1;obtain⟨x,hx⟩:∃x,fs[k]=x:=⟨_,rfl⟩;rw [hx] at d1 hx0 hsn;have HSn:=hid hsn;clear hc c1 hgd hsn hx;have hcc:=so_Class fb F.cls x wr (HFa.o.keep HB.o).dcls hx0 HOk.o.cls;unfold clsP at hcc;have hsz:=HB.o.size
  cases hq:F.cls.find? (fun c=>c.flag==x) with
  | none =>
   have HQ:Hid (clRange F kind x=[]):=hid (clRange_none hq)
   rw [hq] at hcc;unfold clsV noCl at hcc;dsimp only [Option.getD_none,Option.isSome_none] at hcc;have HC:=hid hcc;clear hcc hq
   go_wp2_with (go_at_call 38;refine HC.o.mono ?_;rintro e w5 ⟨rfl,hb5⟩;have HB5:=hid hb5;clear hb5)
   go_roundw
   case rel=>exact⟨k+1,out,by omega,by go_num,hid (own_below (own_below HO.o HB5.o) ((Below.refl _ _).alloc (Nat.le_refl _) _)),hid (by rw [HSn.o,HQ.o,List.append_nil];exact HE.o),hid ((HB.o.trans (HB5.o.mono hsz)).alloc (Nat.le_trans hsz HB5.o.size) _)⟩
   case measure=>simp [intOf];omega
  | some cl =>
   obtain⟨q1,q2,q3,-⟩:=HCl.o.1 cl (List.mem_of_find?_eq_some hq)
   have hrl:=HOk.o.rls;rw [hq] at hcc;unfold clsV at hcc;dsimp only [Option.getD_some,Option.isSome_some] at hcc;have HC:=hid hcc
   by_cases hkd:cl.kind=kind
   ·have HQ:Hid (clRange F kind x=clTake cl.first cl.count.toNat):=hid (clRange_some hq hkd)
    clear hcc hq
    obtain⟨n,hn⟩:∃n:Nat,cl.count=(n:Int):=⟨cl.count.toNat,by omega⟩
    have htn:cl.count.toNat=n:=by omega
    rw [htn] at HQ;rw [hn] at HC q3;have hsub1:=HSub.o (k+1);rw [HSn.o,HQ.o,←HE.o,List.length_append,clTake_len] at hsub1;obtain⟨cf,hcf⟩:∃cf,cl.first=cf:=⟨_,rfl⟩;rw [hcf] at HC HQ q1 q3;obtain⟨cflag,hcflag⟩:∃x,cl.flag=x:=⟨_,rfl⟩;rw [hcflag] at HC;obtain⟨ccr,hccr⟩:∃x,cl.cross=x:=⟨_,rfl⟩;rw [hkd,hccr] at HC;clear hcf hcflag hccr hkd hn htn q2
    go_wp2_with (go_at_call 38;refine HC.o.mono ?_;rintro e w5 ⟨rfl,hb5⟩;have HB5:=hid hb5;clear hb5)
    have HX5:Hid ((w5.alloc (.cells #[.int .u16 cflag,.int .i64 kind,.bool ccr,.int .i64 cf,.int .i64 n] 99)).heap[w5.heap.size]?=some (.cells #[.int .u16 cflag,.int .i64 kind,.bool ccr,.int .i64 cf,.int .i64 n] 99 (0,0))):=hid (heap_alloc_new w5 _);have HB6:Hid (Below w.heap.size w (w5.alloc (.cells #[.int .u16 cflag,.int .i64 kind,.bool ccr,.int .i64 cf,.int .i64 n] 99))):=hid ((HB.o.trans (HB5.o.mono hsz)).alloc (Nat.le_trans hsz HB5.o.size) _);have HO6:Hid ((w5.alloc (.cells #[.int .u16 cflag,.int .i64 kind,.bool ccr,.int .i64 cf,.int .i64 n] 99)).ownsRow w.heap.size 3 1 u7 out.length (out.map (Value.int .i64))):=hid (own_below (own_below HO.o HB5.o) ((Below.refl _ _).alloc (Nat.le_refl _) _))
    go_loopw [7,12,38] (fun s7 _ y wx=>∃(i:Nat) (out2:List Int),i≤n∧y=.int .i64 i∧Hid (wx.ownsRow w.heap.size 3 1 s7 out2.length (out2.map (Value.int .i64)))∧Hid (out2=out++clTake cf i)∧Hid (Below w.heap.size w wx)∧Hid (wx.heap[w5.heap.size]?=some (.cells #[.int .u16 cflag,.int .i64 kind,.bool ccr,.int .i64 cf,.int .i64 n] 99 (0,0)))) (fun _ _ y _=>n - (intOf y).toNat)
    case atStart=>exact⟨0,out,Nat.zero_le _,rfl,HO6,hid (by simp [clTake]),HB6,HX5⟩
    case round =>
    obtain⟨i,out2,hi2,rfl,HO2,HE2,HB2,HX2⟩:=hrel
    by_cases hlt2:i < n
    ·have hil:(i:Int) < (n:Int):=by omega
     have x3:wr.cell? ⟨w5.heap.size,3,none⟩=some (.int .i64 cf):=by rw [cell_of_heap HX2.o];rfl
     have hwr:IntKind.i64.wrap (cf+(i:Int))=cf+(i:Int):=by rw [IntKind.wrap_i64];omega
     have hlen2:out2.length≤65536:=by rw [HE2.o,List.length_append,clTake_len];omega
     have hsz2:=HB2.o.size
     go_wp2_with (at_builtin;refine wpList_push1 rfl _ _ 39 rfl w.heap.size 3 i0 (.int .i64 0) 8 Tryz.underlying39 hi hz0 hz1 hz2 rfl _ out2.length _ rfl HO2.o _ rfl rfl ?c3 ?c4 hsz2 ?_)
     case c3=>unfold maxLen;omega
     case c4=>omega
     intro gg cap w7 hown hg
     have HO7:=hid hown;have HB7:=hid (below_push HB2.o HO2.o hg (Nat.le_refl _) hsz2)
     have HX7:Hid (w7.heap[w5.heap.size]?=some (.cells #[.int .u16 cflag,.int .i64 kind,.bool ccr,.int .i64 cf,.int .i64 n] 99 (0,0))):=hid ((grown_at hg _ (block_lt HX2.o) (fun e=>by
      obtain⟨-,-,cur,g3⟩:=own_ge HO2.o e
      rw [HX2.o] at g3
      injection g3 with g3
      injection g3 with _ g5 _
      exact absurd g5 (by decide))).trans HX2.o)
     clear hown hg
     go_wp2
     go_roundw
     case rel=>exact⟨i+1,out2++[cf+(i:Int)],by omega,by go_num,hid (by rw [List.length_append,List.map_append];exact HO7.o),hid (by rw [clTake_succ,←List.append_assoc,HE2.o]),HB7,HX7⟩
     case measure=>simp [intOf];omega
    obtain rfl:i=n:=by omega
    go_wp2_with fail
    go_roundw
    case rel=>exact⟨k+1,out2,by omega,by go_num,HO2,hid (by rw [HSn.o,HQ.o,HE2.o,HE.o]),HB2⟩
    case measure=>simp [intOf];omega
   have HQ:Hid (clRange F kind x=[]):=hid (clRange_other hq hkd);clear hcc hq q1 q2 q3 hrl
   go_wp2_with (go_at_call 38;refine HC.o.mono ?_;rintro e w5 ⟨rfl,hb5⟩;have HB5:=hid hb5;clear hb5)
   go_roundw
   case rel=>exact⟨k+1,out,by omega,by go_num,hid (own_below (own_below HO.o HB5.o) ((Below.refl _ _).alloc (Nat.le_refl _) _)),hid (by rw [HSn.o,HQ.o,List.append_nil];exact HE.o),hid ((HB.o.trans (HB5.o.mono hsz)).alloc (Nat.le_trans hsz HB5.o.size) _)⟩
   case measure=>simp [intOf];omega
 obtain rfl:k=fs.length:=by omega
 have HE2:Hid (out=namedB F fs kind):=hid (by have:=HE.o;rwa [List.take_length] at this)
 have hlen:out.length≤65536:=by have:=HSub.o fs.length;rw [←HE.o] at this;exact this
 go_wp2_with (go_at_call 88;refine (so_Sort_IN w.heap.size _ out _ (IN.of_own HO.o) HB.o.size (by omega)).mono ?_;rintro e w5 ⟨rfl,hin,hb5⟩;have HI:=hid hin;have HB5:=hid hb5;clear hin hb5)
 go_ret
 exact⟨_,rfl,by rw [←HSo.o,←HE2.o];exact HI.o,HB.o.trans HB5.o⟩
def entryAt (es:List En) (n:Int):Option En:=if 0≤n then es[n.toNat]? else none
def entD (o:Option En):En:=o.getD (⟨#[]⟩,[])
theorem entryAt_in {es:List En} {k:Nat} (hk:k < es.length):entryAt es (k:Int)=some es[k]:=by
 unfold entryAt
 rw [if_pos (by omega),Int.toNat_natCast,List.getElem?_eq_getElem hk]
theorem entryAt_out {es:List En} {n:Int} (h:¬(0≤n∧n < (es.length:Int))):entryAt es n=none:=by
 unfold entryAt
 split
 ·exact List.getElem?_eq_none (by omega)
 rfl
theorem entryAt_set {es:List En} (h:EsOk es) (n:Int):SetOk (entD (entryAt es n)).2:=by
 by_cases hin:0≤n∧n < (es.length:Int)
 ·obtain⟨k,rfl⟩:∃k:Nat,n=k:=⟨n.toNat,by omega⟩
  have hk:k < es.length:=by omega
  rw [entryAt_in hk]
  exact (h.each _ (List.getElem_mem hk)).1
 rw [entryAt_out hin];exact SetOk.nil
def EntT (o:Option En) (w:World) (e:Ending) (w':World):Prop:=∃v,e=.returned (.tuple #[.agg #[.string (entD o).1,v],.bool o.isSome])∧FN w.heap.size w' v (entD o).2∧Below w.heap.size w w'
theorem so_tEntry (tb:Nat) (F:Fl) (es:List En) (n:Int) (w:World) (h:TabAt w tb F es) (hes:EsOk es) :
  Calls Tryz.prog 13 #[.pointer (some ⟨tb,0,none⟩),.int .i64 n] w (EntT (entryAt es n) w):=by
 obtain⟨fb,wb,a,ev,h1,-,-,-,xs,hx1,hx2,hx3⟩:=h
 have htl:tb < w.heap.size:=block_lt h1
 have cA:w.cell? ⟨tb,15,none⟩=some ev:=by rw [cell_of_heap h1];rfl
 have hxl:xs.length=es.length:=by rw [←hx1,entAbs_len]
 have hne:=hes.len;obtain⟨-,A,cp,rfl,hcap,hcells⟩:=hx2;rw [hxl] at cA hcap;clear h1
 by_cases hin:0≤n∧n < (es.length:Int)
 ·obtain⟨k,rfl⟩:∃k:Nat,n=k:=⟨n.toNat,by omega⟩
  have hk:k < xs.length:=by omega
  obtain⟨g,o,rfl,hc⟩:=hcells.resolve_left (by omega)
  obtain⟨q0,q1⟩:=ent_at xs k hk;have d0:=hc _ _ q0;have d1:=hc _ _ q1;rw [←Nat.add_assoc] at d1;have hgl:=block_lt_of_cell? _ _ d0;have hfs:=hx3 _ (List.getElem_mem hk);obtain⟨hke,hek⟩:=entAbs_get hx1 hk;have hlen:=((hes.each _ (List.getElem_mem hke)).1).len
  have HR:Hid (entryAt es (k:Int)=some (xs[k].1,xs[k].2.2)):=hid (by rw [entryAt_in hke,hek])
  rw [hek] at hlen;obtain⟨x,hx⟩:∃x,xs[k]=x:=⟨_,rfl⟩;obtain⟨s,u,zs⟩:=x;rw [hx] at d0 d1 hfs hlen HR;dsimp only at d0 d1 hfs hlen HR;have HFs:=hid hfs;obtain⟨pu,cu,rfl,-⟩:=hfs;obtain⟨hn0,hn1⟩:=hin;obtain⟨N,hN⟩:∃N,es.length=N:=⟨_,rfl⟩;rw [hN] at cA hn1 hcap hne;clear hcells hc q0 q1 hx1 hx3 hxl hes hke hek hx hN hk
  go_enter Tryz.func13,Tryz.ntmps13
  go_upto_region 4 with fail
  obtain⟨w2,hw2⟩:∃W,(w.alloc (.cells #[.string ⟨#[]⟩,.slice none 0 0] 35)).alloc (.cells #[.string s,.slice pu zs.length cu] 35)=W:=⟨_,rfl⟩;have hb1:Below w.heap.size w (w.alloc (.cells #[.string ⟨#[]⟩,.slice none 0 0] 35)):=(Below.refl _ _).alloc (Nat.le_refl _) _
  have hs1:(w.alloc (.cells #[.string ⟨#[]⟩,.slice none 0 0] 35)).heap.size=w.heap.size+1:=by simp
  have hx1:=heap_alloc_new w (.cells #[.string ⟨#[]⟩,.slice none 0 0] 35);obtain⟨w1,hw1⟩:∃W,w.alloc (.cells #[.string ⟨#[]⟩,.slice none 0 0] 35)=W:=⟨_,rfl⟩;rw [hw1] at hw2 hb1 hs1 hx1 ⊢
  have hb2:Below w1.heap.size w1 w2:=by rw [←hw2];exact (Below.refl _ _).alloc (Nat.le_refl _) _
  have hx2:w2.heap[w.heap.size+1]?=some (.cells #[.string s,.slice pu zs.length cu] 35 (0,0)):=by rw [←hw2,←hs1];exact heap_alloc_new w1 _
  have HX1:=hid ((hb2.block _ (block_lt hx1)).trans hx1);have HX2:=hid hx2
  have HB2:=hid (hb1.trans (hb2.mono (by omega)))
  have HS2:Hid (w2.heap.size=w.heap.size+2):=hid (by rw [←hw2];simp [hs1])
  have HCl:Hid (Calls Tryz.prog 40 #[.slice pu zs.length cu] w2 fun e w'=>∃v',e=.returned v'∧FN w2.heap.size w' v' zs∧Below w2.heap.size w2 w'):=hid (so_CloneF _ zs w2 (HFs.o.keep HB2.o) (by omega))
  have e1:w2.cell? ⟨w.heap.size+1,1,none⟩=some (.slice pu zs.length cu):=by rw [cell_of_heap hx2];rfl
  first | rw [hw2] | (rw [hs1] at hw2;rw [hw2]) | skip
  try rw [hs1]
  clear hw1 hw2 hb1 hb2 hs1 hx1 hx2
  go_wp2_with (go_at_call 40;refine HCl.o.mono ?_;rintro e w5 ⟨v5,rfl,hfn,hb5⟩;obtain⟨p5,c5,rfl⟩:∃p c,v5=.slice p zs.length c:=(by obtain⟨p,c,hv,-⟩:=hfn;exact⟨p,c,hv⟩);have HB5:=hid (HB2.o.trans (hb5.mono HB2.o.size));have hx1:=(hb5.block _ (block_lt HX1.o)).trans HX1.o;have hx2:=(hb5.block _ (block_lt HX2.o)).trans HX2.o;have HFN:=hid hfn;have z0:=cell_of_heap hx1 0;have z1:=cell_of_heap hx1 1;have x0:=cell_of_heap hx2 0;have x1:=cell_of_heap hx2 1;simp only [List.getElem?_toArray,List.getElem?_cons_zero,List.getElem?_cons_succ] at z0 z1 x0 x1;have y0:=frozen_of_heap hx1 0;have y1:=frozen_of_heap hx1 1;have f1:=frozen_of_heap hx2 1;clear hfn hb5 hx1 hx2)
  refine bodyPost_ret (v:=.tuple #[.agg #[.string s,.slice p5 zs.length c5],.bool true]) (by simp [results,Tryz.results13,go_sem,z0,z1,x0,x1];try rfl) rfl ?_
  unfold EntT;rw [HR.o]
  refine⟨_,rfl,(HFN.o.kept (X:=[w.heap.size,w.heap.size+1]) ((((Kept.refl _ _).set _ _ _ (.inl (by simp))).set _ _ _ (.inl (by simp))).set _ _ _ (.inl (by simp))) (by intro x hx;simp at hx;have:=HS2.o;omega)).mono (by have:=HS2.o;omega),?_⟩
  exact ((HB5.o.setCell (by simp) _).setCell (by simp) _).setCell (by simp) _
 have HR:=hid (entryAt_out hin);obtain⟨N,hN⟩:∃N,es.length=N:=⟨_,rfl⟩;rw [hN] at cA hin;have HX1:=hid (heap_alloc_new w (.cells #[.string ⟨#[]⟩,.slice none 0 0] 35));have HB1:Hid (Below w.heap.size w (w.alloc (.cells #[.string ⟨#[]⟩,.slice none 0 0] 35))):=hid ((Below.refl _ _).alloc (Nat.le_refl _) _);clear hcells hx1 hx3 hxl hes hN hne hcap
 have key:(n < 0∨¬n < 0∧¬n < (N:Int)):=by omega
 rcases key with h0 | ⟨h0,h2⟩
 all_goals
  go_enter Tryz.func13,Tryz.ntmps13
  go_wp2_with fail
  refine bodyPost_ret (v:=.tuple #[.agg #[.string ⟨#[]⟩,.slice none 0 0],.bool false]) (by simp [results,Tryz.results13,go_sem];try rfl) rfl ?_
  unfold EntT;rw [HR.o]
  try rw [setCell_id HX1.o rfl,setCell_id HX1.o rfl]
  exact⟨_,rfl,FN.nil _ _ _ _,HB1.o⟩
def ruleAt (F:Fl) (n:Int):Option Rl:=if 0≤n then F.rls[n.toNat]? else none
def rl0:Rl:=⟨0,0,false,⟨#[]⟩,⟨#[]⟩,⟨#[]⟩,[],0⟩
def ruleD (o:Option Rl):Rl:=o.getD rl0
theorem ruleAt_in {F:Fl} {k:Nat} (hk:k < F.rls.length):ruleAt F (k:Int)=some F.rls[k]:=by
 unfold ruleAt
 rw [if_pos (by omega),Int.toNat_natCast,List.getElem?_eq_getElem hk]
theorem ruleAt_out {F:Fl} {n:Int} (h:¬(0≤n∧n < (F.rls.length:Int))):ruleAt F n=none:=by
 unfold ruleAt
 split
 ·exact List.getElem?_eq_none (by omega)
 rfl
theorem ruleAt_set {F:Fl} (hok:FlOk F) (ht:TbInv F) (n:Int):SetOk (ruleD (ruleAt F n)).next:=by
 by_cases hin:0≤n∧n < (F.rls.length:Int)
 ·obtain⟨k,rfl⟩:∃k:Nat,n=k:=⟨n.toNat,by omega⟩
  have hk:k < F.rls.length:=by omega
  rw [ruleAt_in hk]
  exact next_set hok ht _ (List.getElem_mem hk)
 rw [ruleAt_out hin];exact SetOk.nil
def rlV (r:Rl) (v:Value):Value:=.agg #[.int .i64 r.kind,.int .u16 r.flag,.bool r.cross,.string r.strip,.string r.add,.string r.cond,v]
def RulT (o:Option Rl) (w:World) (e:Ending) (w':World):Prop:=∃v,e=.returned (.tuple #[rlV (ruleD o) v,.bool o.isSome])∧FN w.heap.size w' v (ruleD o).next∧Below w.heap.size w w'
theorem so_tRule (tb:Nat) (F:Fl) (es:List En) (n:Int) (w:World) (h:TabAt w tb F es) (hok:FlOk F) :
  Calls Tryz.prog 12 #[.pointer (some ⟨tb,0,none⟩),.int .i64 n] w (RulT (ruleAt F n) w):=by
 obtain⟨fb,wb,a,ev,h1,-,-,h4,-⟩:=h
 obtain⟨rs,hx1,hx2,hx3⟩:=h4.rls;have hx2:=Rd.of_own hx2;have htl:tb < w.heap.size:=block_lt h1
 have cA:w.cell? ⟨tb,14,none⟩=some a.rls:=by rw [cell_of_heap h1];rfl
 have hxl:rs.length=F.rls.length:=by rw [←hx1];simp
 have hne:=hok.rls;obtain⟨-,A,cp,hv,hcap,hcells⟩:=hx2;rw [hv,hxl] at cA;rw [hxl] at hcap;clear h1 h4 hv
 by_cases hin:0≤n∧n < (F.rls.length:Int)
 ·obtain⟨k,rfl⟩:∃k:Nat,n=k:=⟨n.toNat,by omega⟩
  have hk:k < rs.length:=by omega
  obtain⟨g,o,rfl,hc⟩:=hcells.resolve_left (by omega)
  obtain⟨q0,q1,q2,q3,q4,q5,q6⟩:=rls_at rs k hk;have d0:=hc _ _ q0;have d1:=hc _ _ q1;have d2:=hc _ _ q2;have d3:=hc _ _ q3;have d4:=hc _ _ q4;have d5:=hc _ _ q5;have d6:=hc _ _ q6;rw [←Nat.add_assoc] at d1 d2 d3 d4 d5 d6;have hgl:=block_lt_of_cell? _ _ d0;have hfs:=(hx3 _ (List.getElem_mem hk)).fs
  have hke:k < F.rls.length:=by omega
  have hek:F.rls[k]=rs[k].1:=by simp [←hx1]
  have hlen:=canon_len (hok.nexts _ (List.getElem_mem hke)).1 (hok.nexts _ (List.getElem_mem hke)).2
  have HR:Hid (ruleAt F (k:Int)=some rs[k].1):=hid (by rw [ruleAt_in hke,hek])
  rw [hek] at hlen;obtain⟨x,hx⟩:∃x,rs[k]=x:=⟨_,rfl⟩;obtain⟨⟨rk,rf,rc,rst,rad,rco,zs,rli⟩,u⟩:=x;rw [hx] at d0 d1 d2 d3 d4 d5 d6 hfs hlen HR;dsimp only at d0 d1 d2 d3 d4 d5 d6 hfs hlen HR;have HFs:=hid hfs;obtain⟨pu,cu,rfl,-⟩:=hfs;obtain⟨hn0,hn1⟩:=hin;obtain⟨N,hN⟩:∃N,F.rls.length=N:=⟨_,rfl⟩;rw [hN] at cA hn1 hcap hne;clear hcells hc q0 q1 q2 q3 q4 q5 q6 hx1 hx3 hxl hok hke hek hx hN hk
  go_enter Tryz.func12,Tryz.ntmps12
  go_upto_region 4 with fail
  obtain⟨w2,hw2⟩:∃W,(w.alloc (.cells #[.int .i64 0,.int .u16 0,.bool false,.string ⟨#[]⟩,.string ⟨#[]⟩,.string ⟨#[]⟩,.slice none 0 0] 31)).alloc (.cells #[.int .i64 rk,.int .u16 rf,.bool rc,.string rst,.string rad,.string rco,.slice pu zs.length cu] 31)=W:=⟨_,rfl⟩;have hb1:Below w.heap.size w (w.alloc (.cells #[.int .i64 0,.int .u16 0,.bool false,.string ⟨#[]⟩,.string ⟨#[]⟩,.string ⟨#[]⟩,.slice none 0 0] 31)):=(Below.refl _ _).alloc (Nat.le_refl _) _
  have hs1:(w.alloc (.cells #[.int .i64 0,.int .u16 0,.bool false,.string ⟨#[]⟩,.string ⟨#[]⟩,.string ⟨#[]⟩,.slice none 0 0] 31)).heap.size=w.heap.size+1:=by simp
  have hx1:=heap_alloc_new w (.cells #[.int .i64 0,.int .u16 0,.bool false,.string ⟨#[]⟩,.string ⟨#[]⟩,.string ⟨#[]⟩,.slice none 0 0] 31);obtain⟨w1,hw1⟩:∃W,w.alloc (.cells #[.int .i64 0,.int .u16 0,.bool false,.string ⟨#[]⟩,.string ⟨#[]⟩,.string ⟨#[]⟩,.slice none 0 0] 31)=W:=⟨_,rfl⟩;rw [hw1] at hw2 hb1 hs1 hx1 ⊢
  have hb2:Below w1.heap.size w1 w2:=by rw [←hw2];exact (Below.refl _ _).alloc (Nat.le_refl _) _
  have hx2:w2.heap[w.heap.size+1]?=some (.cells #[.int .i64 rk,.int .u16 rf,.bool rc,.string rst,.string rad,.string rco,.slice pu zs.length cu] 31 (0,0)):=by rw [←hw2,←hs1];exact heap_alloc_new w1 _
  have HX1:=hid ((hb2.block _ (block_lt hx1)).trans hx1);have HX2:=hid hx2
  have HB2:=hid (hb1.trans (hb2.mono (by omega)))
  have HS2:Hid (w2.heap.size=w.heap.size+2):=hid (by rw [←hw2];simp [hs1])
  have HCl:Hid (Calls Tryz.prog 40 #[.slice pu zs.length cu] w2 fun e w'=>∃v',e=.returned v'∧FN w2.heap.size w' v' zs∧Below w2.heap.size w2 w'):=hid (so_CloneF _ zs w2 (HFs.o.keep HB2.o) (by omega))
  have e1:w2.cell? ⟨w.heap.size+1,6,none⟩=some (.slice pu zs.length cu):=by rw [cell_of_heap hx2];rfl
  first | rw [hw2] | (rw [hs1] at hw2;rw [hw2]) | skip
  try rw [hs1]
  clear hw1 hw2 hb1 hb2 hs1 hx1 hx2
  go_wp2_with (go_at_call 40;refine HCl.o.mono ?_;rintro e w5 ⟨v5,rfl,hfn,hb5⟩;obtain⟨p5,c5,rfl⟩:∃p c,v5=.slice p zs.length c:=(by obtain⟨p,c,hv,-⟩:=hfn;exact⟨p,c,hv⟩);have HB5:=hid (HB2.o.trans (hb5.mono HB2.o.size));have hx1:=(hb5.block _ (block_lt HX1.o)).trans HX1.o;have hx2:=(hb5.block _ (block_lt HX2.o)).trans HX2.o;have HFN:=hid hfn;have z0:=cell_of_heap hx1 0;have z1:=cell_of_heap hx1 1;have z2:=cell_of_heap hx1 2;have z3:=cell_of_heap hx1 3;have z4:=cell_of_heap hx1 4;have z5:=cell_of_heap hx1 5;have z6:=cell_of_heap hx1 6;have x0:=cell_of_heap hx2 0;have x1:=cell_of_heap hx2 1;have x2:=cell_of_heap hx2 2;have x3:=cell_of_heap hx2 3;have x4:=cell_of_heap hx2 4;have x5:=cell_of_heap hx2 5;have x6:=cell_of_heap hx2 6;simp only [List.getElem?_toArray,List.getElem?_cons_zero,List.getElem?_cons_succ] at z0 z1 z2 z3 z4 z5 z6 x0 x1 x2 x3 x4 x5 x6;have y0:=frozen_of_heap hx1 0;have y1:=frozen_of_heap hx1 1;have y2:=frozen_of_heap hx1 2;have y3:=frozen_of_heap hx1 3;have y4:=frozen_of_heap hx1 4;have y5:=frozen_of_heap hx1 5;have y6:=frozen_of_heap hx1 6;have f6:=frozen_of_heap hx2 6;clear hfn hb5 hx1 hx2)
  refine bodyPost_ret (v:=.tuple #[.agg #[.int .i64 rk,.int .u16 rf,.bool rc,.string rst,.string rad,.string rco,.slice p5 zs.length c5],.bool true]) (by simp [results,Tryz.results12,go_sem,z0,z1,z2,z3,z4,z5,z6,x0,x1,x2,x3,x4,x5,x6];try rfl) rfl ?_
  unfold RulT;rw [HR.o]
  refine⟨_,rfl,(HFN.o.kept (X:=[w.heap.size,w.heap.size+1]) (((((((((Kept.refl _ _).set _ _ _ (.inl (by simp))).set _ _ _ (.inl (by simp))).set _ _ _ (.inl (by simp))).set _ _ _ (.inl (by simp))).set _ _ _ (.inl (by simp))).set _ _ _ (.inl (by simp))).set _ _ _ (.inl (by simp))).set _ _ _ (.inl (by simp))) (by intro x hx;simp at hx;have:=HS2.o;omega)).mono (by have:=HS2.o;omega),?_⟩
  exact ((((((((HB5.o.setCell (by simp) _).setCell (by simp) _).setCell (by simp) _).setCell (by simp) _).setCell (by simp) _).setCell (by simp) _).setCell (by simp) _).setCell (by simp) _)
 have HR:=hid (ruleAt_out hin);obtain⟨N,hN⟩:∃N,F.rls.length=N:=⟨_,rfl⟩;rw [hN] at cA hin;have HX1:=hid (heap_alloc_new w (.cells #[.int .i64 0,.int .u16 0,.bool false,.string ⟨#[]⟩,.string ⟨#[]⟩,.string ⟨#[]⟩,.slice none 0 0] 31));have HB1:Hid (Below w.heap.size w (w.alloc (.cells #[.int .i64 0,.int .u16 0,.bool false,.string ⟨#[]⟩,.string ⟨#[]⟩,.string ⟨#[]⟩,.slice none 0 0] 31))):=hid ((Below.refl _ _).alloc (Nat.le_refl _) _);clear hcells hx1 hx3 hxl hok hN hne hcap
 have key:(n < 0∨¬n < 0∧¬n < (N:Int)):=by omega
 rcases key with h0 | ⟨h0,h2⟩
 all_goals
  go_enter Tryz.func12,Tryz.ntmps12
  go_wp2_with fail
  refine bodyPost_ret (v:=.tuple #[.agg #[.int .i64 0,.int .u16 0,.bool false,.string ⟨#[]⟩,.string ⟨#[]⟩,.string ⟨#[]⟩,.slice none 0 0],.bool false]) (by simp [results,Tryz.results12,go_sem];try rfl) rfl ?_
  unfold RulT;rw [HR.o]
  try rw [setCell_id HX1.o rfl,setCell_id HX1.o rfl,setCell_id HX1.o rfl,setCell_id HX1.o rfl,setCell_id HX1.o rfl,setCell_id HX1.o rfl,setCell_id HX1.o rfl]
  exact⟨_,rfl,FN.nil _ _ _ _,HB1.o⟩
theorem so_tSuffixes (tb:Nat) (F:Fl) (es:List En) (n:Int) (w:World) (h:TabAt w tb F es) (hok:FlOk F) (ht:TbInv F) (hes:EsOk es) :
  Calls Tryz.prog 23 #[.pointer (some ⟨tb,0,none⟩),.int .i64 n] w fun e w'=>∃v',e=.returned v'∧IN w.heap.size w' v' (namedR F ((entD (entryAt es n)).2) 2)∧Below w.heap.size w w':=by
 have hset:=entryAt_set hes n
 have he:=so_tEntry tb F es n w h hes;unfold EntT at he;obtain⟨b,hb⟩:∃b,(entryAt es n).isSome=b:=⟨_,rfl⟩;obtain⟨x,hx⟩:∃x,entD (entryAt es n)=x:=⟨_,rfl⟩;rw [hb,hx] at he;rw [hx] at hset ⊢;obtain⟨s,zs⟩:=x
 skip
 dsimp only at he hset ⊢;have HE:=hid he;have HS:=hid hset;have HT:=hid h;have HOk:=hid hok;have HTb:=hid ht;clear he hset h hok ht hes hx hb
 go_enter Tryz.func23,Tryz.ntmps23
 go_wp2_with (first
  | (go_at_call 13;refine HE.o.mono ?_;rintro e w1 ⟨v1,rfl,hfn,hb1⟩;obtain⟨p1,c1,rfl⟩:∃p c,v1=.slice p zs.length c:=(by obtain⟨p,c,hv,-⟩:=hfn;exact⟨p,c,hv⟩);have hba:=hb1.alloc hb1.size (.cells #[.string s,.slice p1 zs.length c1] 35);have HB1:=hid hba;have HF1:=hid (hfn.fs.keep ((Below.refl _ _).alloc (Nat.le_refl _) (.cells #[.string s,.slice p1 zs.length c1] 35)));clear hfn hb1 hba)
  | (go_at_call 54;refine (so_named tb F es _ zs 2 _ (HT.o.keep HB1.o) HTb.o.1 HOk.o HF1.o HS.o).mono ?_;rintro e w2 ⟨v2,rfl,hin,hb2⟩;have HB2:=hid (HB1.o.trans (hb2.mono HB1.o.size));have HI:=hid (hin.mono HB1.o.size);clear hin hb2))
 go_ret
 exact⟨_,rfl,HI.o,HB2.o⟩
def endsR (F:Fl) (n:Int):Bool:=match ruleAt F n with
 | some r=>!(r.next.contains F.s0)
 | none=>false
theorem TabAt.sp {w:World} {tb:Nat} {F:Fl} {es:List En} (h:TabAt w tb F es) (k:Nat) (hk:k < 5):w.cell? ⟨tb,5+k,none⟩=some (.int .u16 (spAt F k)):=by
 obtain⟨fb,wb,a,ev,h1,-⟩:=h
 rw [cell_of_heap h1]
 rcases k with _ | _ | _ | _ | _ | k<;>first | rfl | omega
theorem so_tEnds (tb:Nat) (F:Fl) (es:List En) (n:Int) (w:World) (h:TabAt w tb F es) (hok:FlOk F) (ht:TbInv F) :
  Calls Tryz.prog 19 #[.pointer (some ⟨tb,0,none⟩),.int .i64 n] w fun e w'=>e=.returned (.bool (endsR F n))∧Below w.heap.size w w':=by
 have hset:=ruleAt_set hok ht n
 have he:=so_tRule tb F es n w h hok;unfold RulT at he
 have hc:Hid (endsR F n=match ruleAt F n with | some r=>!(r.next.contains F.s0) | none=>false):=hid rfl
 obtain⟨R,hR⟩:∃b,endsR F n=b:=⟨_,rfl⟩;rw [hR] at hc ⊢
 have csp:=h.sp 0 (by decide)
 have htl:=h.lt
 cases hr:ruleAt F n with
 | none =>
  rw [hr] at he hc
  unfold ruleD rlV rl0 at he;dsimp only [Option.getD_none,Option.isSome_none] at he hc;have HE:=hid he;clear he hset h hok ht hr hR
  go_enter Tryz.func19,Tryz.ntmps19
  go_upto_region 2 with (go_at_call 12;refine HE.o.mono ?_;rintro e w1 ⟨v1,rfl,hfn,hb1⟩;obtain⟨p1,c1,rfl⟩:∃p c,v1=.slice p 0 c:=(by obtain⟨p,c,hv,-⟩:=hfn;exact⟨p,c,hv⟩);have HB1:=hid (hb1.alloc hb1.size (.cells #[.int .i64 0,.int .u16 0,.bool false,.string ⟨#[]⟩,.string ⟨#[]⟩,.string ⟨#[]⟩,.slice p1 0 c1] 31));clear hfn hb1)
  go_quiet (fail)
  go_wp2_with fail
  go_ret
  exact⟨by rw [hc.out];rfl,below_drewN HB1.o _⟩
 | some r =>
  rw [hr] at he hc hset
  obtain⟨rk,rf,rc,rst,rad,rco,zs,rli⟩:=r;unfold ruleD rlV at he;unfold ruleD at hset;dsimp only [Option.getD_some,Option.isSome_some] at he hc hset;have HE:=hid he;have hlen:=hset.len;have HSp:Hid (spAt F 0=F.s0):=hid rfl;obtain⟨z,hz⟩:∃z,spAt F 0=z:=⟨_,rfl⟩;rw [hz] at csp;have HZ:Hid (F.s0=z):=hid hz;clear he hset h hok ht hr hR hz HSp
  go_enter Tryz.func19,Tryz.ntmps19
  go_upto_region 2 with (go_at_call 12;refine HE.o.mono ?_;rintro e w1 ⟨v1,rfl,hfn,hb1⟩;obtain⟨p1,c1,rfl⟩:∃p c,v1=.slice p zs.length c:=(by obtain⟨p,c,hv,-⟩:=hfn;exact⟨p,c,hv⟩);have HB1:=hid (hb1.alloc hb1.size (.cells #[.int .i64 rk,.int .u16 rf,.bool rc,.string rst,.string rad,.string rco,.slice p1 zs.length c1] 31));have HF0:=hid hfn.fs;have csp1:=(hb1.cell (p:=⟨tb,5+0,none⟩) htl).trans csp;have htl1:=Nat.lt_of_lt_of_le htl hb1.size;clear hfn hb1)
  have HHs:Hid (∀W,Below w1.heap.size w1 W→Calls Tryz.prog 51 #[.slice p1 zs.length c1,.int .u16 z] W fun e w'=>e=.returned (.bool (zs.contains z))∧w'=W):=hid (fun W hW=>so_Has _ zs z W (HF0.o.keep hW) (by omega))
  have hal:∀x,Below w1.heap.size w1 ((w1.alloc (.cells #[.int .i64 rk,.int .u16 rf,.bool rc,.string rst,.string rad,.string rco,.slice p1 zs.length c1] 31)).drewN x):=fun x=>below_drewN ((Below.refl _ _).alloc (Nat.le_refl _) _) x
  have HAl:=hid hal;rw [HZ.o] at hc;obtain⟨ct,hct⟩:∃b,zs.contains z=b:=⟨_,rfl⟩;rw [hct] at HHs hc;clear hal hct
  go_quiet (first | (go_at_call 51;refine Calls.quiet_of_same (HHs.o _ (HAl.o _))))
  go_wp2_with fail
  go_ret
  exact⟨by rw [hc.out];rfl,below_drewN HB1.o _⟩
abbrev wkA:ByteArray:=⟨#[83,70,88,32,65,32,89,32,50,10,83,70,88,32,65,32,48,32,115,10,83,70,88,32,65,32,48,32,101,114,10]⟩
abbrev wkD:ByteArray:=⟨#[49,10,100,111,47,65,10]⟩
abbrev bA:ByteArray:=⟨#[65]⟩
abbrev bER:ByteArray:=⟨#[101,114]⟩
abbrev bDO:ByteArray:=⟨#[100,111]⟩
abbrev wk1:List ByteArray:=[kSFX,bA,zeroS,⟨#[115]⟩]
abbrev wk2:List ByteArray:=[kSFX,bA,zeroS,bER]
abbrev wk0:List ByteArray:=[kSFX,bA,⟨#[89]⟩,⟨#[50]⟩]
theorem wk_rows:rowsOf (eachOf wkA.data.toList)=[(1,wk0),(2,wk1),(3,wk2)]:=by kernel_rfl
theorem wk_lines:(linesOf wkA.data.toList).length=3:=by kernel_rfl
def wkC:Cl:=⟨65,2,true,0,2⟩
def wkR1:Rl:=⟨2,65,true,⟨#[]⟩,⟨#[115]⟩,⟨#[46]⟩,[],2⟩
def wkR2:Rl:=⟨2,65,true,⟨#[]⟩,bER,⟨#[46]⟩,[],3⟩
theorem wk_piece:pieceR true zeroS=.ok ⟨#[]⟩:=by
 unfold pieceR
 rw [if_pos ⟨rfl,rfl⟩]
theorem wk_rule (F:Fl) (l:Int) (w:List UInt8) (s:ByteArray) (hs:s.data.toList=w) (hw:wordR w=(w,[],false,0)) (ha:addR w=.ok s):ruleR F wkC l [kSFX,bA,zeroS,s]=.ok ⟨2,65,true,⟨#[]⟩,s,⟨#[46]⟩,[],l⟩:=by
 unfold ruleR
 rw [if_neg (by simp)]
 have h2:fieldAt [kSFX,bA,zeroS,s] 2=zeroS:=rfl;have h3:fieldAt [kSFX,bA,zeroS,s] 3=s:=rfl
 have hc:condOf [kSFX,bA,zeroS,s]=.ok ⟨#[46]⟩:=by unfold condOf;rw [if_neg (by simp)]
 have hn:nextR F wkC.kind [] false=.ok []:=rfl;rw [h2,h3,wk_piece,hs,hc];dsimp only;rw [hw];dsimp only
 rw [if_neg (by decide),ha]
 dsimp only;rw [hn]
 rfl
theorem wk_rule1 (F:Fl):ruleR F wkC 2 wk1=.ok wkR1:=by
 refine wk_rule F 2 [115] ⟨#[115]⟩ rfl ?_ (by kernel_rfl)
 unfold wordR
 rw [wgo_more _ _ _ (by decide) (by decide),wgo_nil]
 rfl
theorem wk_rule2 (F:Fl):ruleR F wkC 3 wk2=.ok wkR2:=by
 refine wk_rule F 3 [101,114] bER rfl ?_ (by kernel_rfl)
 unfold wordR
 rw [wgo_more _ _ _ (by decide) (by decide),wgo_more _ _ _ (by decide) (by decide),wgo_nil]
 rfl
def wkF:Fl:=⟨1,⟨#[]⟩,⟨#[]⟩,0,0,0,0,0,3,[],[],[wkC],[wkR1,wkR2]⟩
theorem wk_aff:affR wkA.data.toList=.ok wkF:=by
 rw [affR_small _ (by decide),wk_rows,wk_lines]
 have hk:keyN (fieldAt wk0 0)=12:=by kernel_rfl
 have hfr:freshR fl0 bA=.ok 65:=by kernel_rfl
 have hne:numErr (⟨#[50]⟩:ByteArray).data.toList 1024=0:=by kernel_rfl
 have hnv:numVal (⟨#[50]⟩:ByteArray).data.toList 1024=2:=by kernel_rfl
 have hcl:classR 4 ⟨fl0,[(2,wk1),(3,wk2)],[],1⟩ wk0=.ok ⟨wkF,[],[],3⟩:=by
  unfold classR
  have h1:fieldAt wk0 1=bA:=rfl;have h2:fieldAt wk0 2=⟨#[89]⟩:=rfl;have h3:fieldAt wk0 3=⟨#[50]⟩:=rfl;have h0:fieldAt wk0 0=kSFX:=rfl;rw [h1,h2,h3,h0,hfr];dsimp only
  rw [if_neg (by simp),hne,hnv,if_neg (by decide),if_neg (by decide)]
  show groupR 4 _ (ruleIn wkC) 2 ⟨{ fl0 with cls:=[wkC] },[(2,wk1),(3,wk2)],[],1⟩=_
  rw [groupR];dsimp only
  rw [if_pos (by decide)]
  unfold ruleIn;rw [wk_rule1];dsimp only;rw [groupR];dsimp only
  rw [if_pos (by decide)]
  rw [wk_rule2]
  rfl
 have hst:stepR 4 ⟨fl0,[(1,wk0),(2,wk1),(3,wk2)],[],0⟩ 1 wk0 [(2,wk1),(3,wk2)]=.ok ⟨wkF,[],[kSFX],3⟩:=by
  unfold stepR
  rw [hk,if_neg (by decide),if_neg (by decide),if_neg (by decide)]
  have hh:headR 4 ⟨fl0,[(2,wk1),(3,wk2)],[],1⟩ wk0 12=.ok ⟨wkF,[],[],3⟩:=by
   unfold headR
   rw [if_neg (by decide),if_neg (by decide),if_neg (by decide),if_neg (by decide),if_neg (by decide),if_neg (by decide),if_neg (by decide)]
   exact hcl
  rw [hh]
  rfl
 show affEnd (readGo 4 3 ⟨fl0,[(1,wk0),(2,wk1),(3,wk2)],[],0⟩)=_
 rw [readGo];dsimp only;rw [hst]
 rfl
theorem wk_dic:dicR wkF wkD.data.toList=.ok [(bDO,[65])]:=by
 have hrows:rowsOf (eachOf wkD.data.toList)=[(1,[⟨#[49]⟩]),(2,[⟨#[100,111,47,65]⟩])]:=by kernel_rfl
 have hne:numErr (⟨#[49]⟩:ByteArray).data.toList 8192=0:=by kernel_rfl
 have hnv:numVal (⟨#[49]⟩:ByteArray).data.toList 8192=1:=by kernel_rfl
 have hen:entR wkF [⟨#[100,111,47,65]⟩]=.ok (bDO,[65]):=by
  have hw:wordR [100,111,47,65]=([100,111],[65],true,0):=by
   unfold wordR
   rw [wgo_more _ _ _ (by decide) (by decide),wgo_more _ _ _ (by decide) (by decide),wgo_slash _ _ _ (by decide)]
   rfl
  have hfl:flagsR wkF (mkS [65])=([65],0):=by
   unfold flagsR
   rw [if_pos (show wkF.als.length=0 from rfl)]
   have hn:numsF wkF.kind (mkS [65]).data.toList=[65]:=by kernel_rfl
   unfold readF
   rw [if_neg (by decide),if_neg (by decide),hn,if_neg (by decide),if_neg (by decide)]
   have hc:canon [65]=[65]:=by
    simp [canon,Lib.compact,Lib.compactUpTo]
    exact⟨0,by kernel_rfl,rfl⟩
   rw [hc]
  unfold entR
  rw [if_neg (by decide)]
  show (match wordR [100,111,47,65] with | (w,rest,cut,e)=>if e≠0 then (Except.error e:Except Int En) else enWord wkF w rest cut)=_
  rw [hw];dsimp only
  rw [if_neg (by decide)]
  unfold enWord
  rw [if_neg (by decide),if_neg (by decide),if_neg (by decide)]
  unfold enFlags
  rw [hfl,if_neg (by decide),if_pos (by decide)]
  rfl
 unfold dicR
 rw [if_neg (by decide),hrows]
 unfold dicRows;dsimp only
 rw [if_neg (by decide)]
 have h1:fieldAt [⟨#[49]⟩] 0=⟨#[49]⟩:=rfl
 rw [h1,hne,if_neg (by decide),hnv,dgo_ok (by decide) hen,dgo_nil]
 rfl
theorem wk_tab:tabR wkA.data.toList wkD.data.toList=.ok (wkF,[(bDO,[65])]):=tabR_ok wk_aff wk_dic
theorem so_tints (v u:Value) (zs:List Int) (w:World) (h:IS w v zs) (hu:IS w u zs) (hbig:zs.length≤1048576) :
  Calls Tryz.prog 26 #[v,u] w fun e w'=>e=.returned (.bool true)∧∃n,w'=w.drewN n:=by
 obtain⟨p,c,rfl,hcap,hs⟩:=h
 obtain⟨p2,c2,rfl,hcap2,hs2⟩:=hu;have hA:=hid hs;have hB:=hid hs2;clear hs hs2
 go_enter Tryz.func26,Tryz.ntmps26
 go_wp2_with fail
 go_loopw [5,13] (fun _ i wr=>∃k m:Nat,k≤zs.length∧i=.int .i64 k∧wr=w.drewN m) (fun _ i _=>zs.length - (intOf i).toNat)
 case atStart=>exact⟨0,0,Nat.zero_le _,rfl,rfl⟩
 case round =>
 obtain⟨k,m,hk,rfl,rfl⟩:=hrel
 by_cases hlt:k < zs.length
 ·obtain⟨b,off,rfl,hc⟩:=hA.out.resolve_left (by omega)
  obtain⟨b2,off2,rfl,hc2⟩:=hB.out.resolve_left (by omega)
  have c1:=hc k hlt;have c2':=hc2 k hlt;clear hc hc2
  have he:zs.getD k 0=zs[k]:=by simp [List.getD,hlt]
  rw [he] at c1 c2'
  generalize zs[k]=x at *
  clear he
  go_wp2_with fail
  go_quiet (fail)
  go_wp2_with fail
  go_roundw
  case rel=>exact⟨k+1,_,by omega,by go_num,rfl⟩
  case measure=>simp [intOf];omega
 obtain rfl:k=zs.length:=by omega
 go_wp2_with fail
 go_ret
 exact⟨rfl,_,rfl⟩
theorem so_twakes (m0:Int) (w:World) (h0:0 < w.heap.size) (hm:w.cell? ⟨0,0,none⟩=some (.int .i64 m0)) :
  Calls Tryz.prog 11 #[] w fun e w'=>e=.returned (.bool true)∧Below w.heap.size w w':=by
 have hr:=so_tabRead wkA wkD m0 w h0 hm
 rw [wk_tab] at hr;unfold TabP at hr;dsimp only at hr;have HR:=hid hr
 have HSf:Hid (∀tb W,TabAt W tb wkF [(bDO,[65])]→FlOk wkF→TbInv wkF→EsOk [(bDO,[65])]→Calls Tryz.prog 23 #[.pointer (some ⟨tb,0,none⟩),.int .i64 0] W fun e w'=>∃v',e=.returned v'∧IS w' v' [0,1]∧Below W.heap.size W w'):=hid (fun tb W h hok ht hes=>(so_tSuffixes tb wkF [(bDO,[65])] 0 W h hok ht hes).mono (by
  rintro e w' ⟨v',rfl,hv,hb⟩
  have e1:namedR wkF (entD (entryAt [(bDO,[65])] 0)).2 2=[0,1]:=by decide
  rw [e1] at hv
  exact⟨v',rfl,hv.is,hb⟩))
 have HEn:Hid (∀tb W,TabAt W tb wkF [(bDO,[65])]→FlOk wkF→TbInv wkF→Calls Tryz.prog 19 #[.pointer (some ⟨tb,0,none⟩),.int .i64 1] W fun e w'=>e=.returned (.bool true)∧Below W.heap.size W w'):=hid (fun tb W h hok ht=>(so_tEnds tb wkF [(bDO,[65])] 1 W h hok ht).mono (by
  rintro e w' ⟨rfl,hb⟩
  exact⟨by rw [show endsR wkF 1=true from by decide],hb⟩))
 clear hr h0 hm
 go_enter Tryz.func11,Tryz.ntmps11
 go_upto_region 2 with (go_at_call 17;refine HR.o.mono ?_;rintro e w1 ⟨hb1,tb,rfl,ht,hok,htb⟩;have HB1:=hid (hb1.alloc hb1.size (.cells #[.int .i64 0,.int .i64 0,.int .i64 0] 60));have HT1:=hid (ht.keep ((Below.refl _ _).alloc (Nat.le_refl _) (.cells #[.int .i64 0,.int .i64 0,.int .i64 0] 60)));have HOk:=hid hok;clear hb1 ht hok htb)
 go_wp2_with (first
  | (go_at_call 23;refine (HSf.o tb _ HT1.o HOk.o.1 HOk.o.2.1 HOk.o.2.2).mono ?_;rintro e w2 ⟨v2,rfl,hv,hb2⟩;have HB2:=hid (HB1.o.trans (hb2.mono HB1.o.size));have HT2:=hid (HT1.o.keep hb2);have HV:=hid hv;clear hv hb2)
  | (go_at_call 26;refine (so_tints _ _ [0,1] _ (HV.o.keep ((Below.refl _ _).alloc (Nat.le_refl _) _)) (IS.of_own (own_laid w2 3 1 2 #[.int .i64 0,.int .i64 1] rfl (by decide))) (by simp)).mono ?_;rintro e w3 ⟨rfl,m3,hw3⟩;have HB3:Hid (Below w.heap.size w w3):=hid (by rw [hw3];exact below_drewN (HB2.o.alloc HB2.o.size _) _);have HT3:Hid (TabAt w3 tb wkF [(bDO,[65])]):=hid (by rw [hw3];exact (HT2.o.keep ((Below.refl _ _).alloc (Nat.le_refl _) _)).keep (drewN_below _));clear hw3)
  | (go_at_call 19;refine (HEn.o tb _ HT3.o HOk.o.1 HOk.o.2.1).mono ?_;rintro e w4 ⟨rfl,hb4⟩;have HB4:=hid (HB3.o.trans (hb4.mono HB3.o.size));clear hb4))
 go_ret
 exact⟨rfl,HB4.o⟩
def namedP (F:Fl) (fs:List Int) (kind:Int) (k:Nat):List Int:=((List.range k).filter (goesN F fs kind)).map (fun n:Nat=>(n:Int))
theorem namedP_all (F:Fl) (fs:List Int) (kind:Int):namedP F fs kind F.rls.length=namedR F fs kind:=rfl
theorem namedP_succ (F:Fl) (fs:List Int) (kind:Int) (k:Nat):namedP F fs kind (k+1)=namedP F fs kind k++(if goesN F fs kind k=true then [(k:Int)] else []):=by
 unfold namedP
 rw [List.range_succ,List.filter_append,List.map_append]
 congr 1
 by_cases h:goesN F fs kind k=true
 ·rw [if_pos h];simp [h]
 rw [if_neg h];simp [h]
theorem QTabAt.file {w:World} {ub:Nat} {F:Fl} {es:List En} (h:QTabAt w ub F es):∃rf A k,∃rs:List (Rl×Value),w.cell? ⟨ub,0,none⟩=some (.pointer (some ⟨rf,0,none⟩))∧w.cell? ⟨rf,12,none⟩=some (.slice A rs.length k)∧rs.map (·.1)=F.rls∧Rd w 8 (.slice A rs.length k) rs.length (qrls rs)∧(∀r∈rs,IS w r.2 r.1.next)∧QFileAt w rf F:=by
 obtain⟨rf,v,h1,h2,-⟩:=h
 have h2':=h2;obtain⟨q,h3,-,-,-,rs,h4,h5,h6⟩:=h2
 obtain⟨A,k,hv⟩:∃A k,q.rls=.slice A rs.length k:=by obtain⟨-,A,k,hv,-,-⟩:=h5;exact⟨A,k,hv⟩
 exact⟨rf,A,k,rs,by rw [cell_of_heap h1];rfl,by rw [cell_of_heap h3,←hv];rfl,h4,by rw [←hv];exact h5,h6,h2'⟩
theorem QTabAt.ents {w:World} {ub:Nat} {F:Fl} {es:List En} (h:QTabAt w ub F es):∃A k,∃xs:List EnM,w.cell? ⟨ub,1,none⟩=some (.slice A xs.length k)∧entAbs xs=es∧Rd w 2 (.slice A xs.length k) xs.length (entCells xs)∧∀x∈xs,IS w x.2.1 x.2.2:=by
 obtain⟨rf,v,h1,-,xs,h3,h4,h5⟩:=h
 obtain⟨A,k,hv⟩:∃A k,v=.slice A xs.length k:=by obtain⟨-,A,k,hv,-,-⟩:=h4;exact⟨A,k,hv⟩
 subst hv
 exact⟨A,k,xs,by rw [cell_of_heap h1];rfl,h3,h4,h5⟩
theorem IS.nil (w:World):IS w (.slice none 0 0) []:=⟨none,0,rfl,Nat.le_refl _,.inl rfl⟩
theorem so_qtFlags (ub:Nat) (F:Fl) (es:List En) (n:Int) (w:World) (h:QTabAt w ub F es) :
  Calls Tryz.prog 53 #[.pointer (some ⟨ub,0,none⟩),.int .i64 n] w fun e w'=>∃v,e=.returned v∧IS w v (entD (entryAt es n)).2∧w=w':=by
 obtain⟨A,cp,xs,c1,hx1,hx2,hx3⟩:=h.ents
 have hxl:xs.length=es.length:=by rw [←hx1,entAbs_len]
 obtain⟨-,A',cp',hv,hcap,hcells⟩:=hx2
 cases hv
 clear h
 by_cases hin:0≤n∧n < (xs.length:Int)
 ·obtain⟨k,rfl⟩:∃k:Nat,n=k:=⟨n.toNat,by omega⟩
  have hk:k < xs.length:=by omega
  obtain⟨g,o,rfl,hc⟩:=hcells.resolve_left (by omega)
  obtain⟨q0,q1⟩:=ent_at xs k hk;have d1:=hc _ _ q1;rw [←Nat.add_assoc] at d1;have hfs:=hx3 _ (List.getElem_mem hk);obtain⟨hke,hek⟩:=entAbs_get hx1 hk
  have HR:Hid (entD (entryAt es (k:Int))=(xs[k].1,xs[k].2.2)):=hid (by rw [entryAt_in hke,hek];rfl)
  obtain⟨x,hx⟩:∃x,xs[k]=x:=⟨_,rfl⟩;obtain⟨s,u,zs⟩:=x;rw [hx] at d1 hfs HR;dsimp only at d1 hfs HR;have HFs:=hid hfs;obtain⟨pu,cu,rfl,-⟩:=hfs;obtain⟨hn0,hn1⟩:=hin;obtain⟨N,hN⟩:∃N,xs.length=N:=⟨_,rfl⟩;rw [hN] at c1 hn1 hcap;clear hcells hc q0 q1 hx1 hx3 hxl hke hek hx hN hk
  go_enter Tryz.func53,Tryz.ntmps53
  go_wp2_with fail
  go_ret
  exact⟨_,rfl,by rw [HR.o];exact HFs.o,rfl⟩
 have HR:=hid (entryAt_out (es:=es) (n:=n) (by rw [←hxl];exact hin))
 obtain⟨N,hN⟩:∃N,xs.length=N:=⟨_,rfl⟩;rw [hN] at c1 hin;clear hcells hx1 hx3 hxl hN hcap
 have key:(n < 0∨¬n < 0∧¬n < (N:Int)):=by omega
 rcases key with h0 | ⟨h0,h2⟩
 all_goals
  go_enter Tryz.func53,Tryz.ntmps53
  go_wp2_with fail
  go_ret
  exact⟨_,rfl,by rw [HR.o];exact IS.nil _,rfl⟩
def cAny (fs:List Int) (flag:Int) (k:Nat):Bool:=(fs.take k).contains flag
theorem cAny_hit {fs:List Int} {flag:Int} {k:Nat} (hn:fs.Nodup) (hk:k < fs.length) (h:fs[k]=flag):cAny fs flag k=false∧cAny fs flag (k+1)=true:=by
 unfold cAny
 constructor
 ·rw [Bool.eq_false_iff]
  intro hc
  have hm:=List.contains_iff_mem.1 hc;obtain⟨i,hi,he⟩:=List.mem_iff_getElem.1 hm;rw [List.length_take] at hi;rw [List.getElem_take] at he
  have:=(List.nodup_iff_pairwise_ne.1 hn)
  rw [List.pairwise_iff_getElem] at this
  exact this i k (by omega) hk (by omega) (he.trans h.symm)
 rw [List.take_add_one,List.getElem?_eq_getElem hk,h]
 simp
theorem cAny_miss {fs:List Int} {flag:Int} {k:Nat} (hk:k < fs.length) (h:fs[k]≠flag):cAny fs flag (k+1)=cAny fs flag k:=by
 unfold cAny
 rw [List.take_add_one,List.getElem?_eq_getElem hk,Bool.eq_iff_iff]
 simp only [List.contains_iff_mem,List.mem_append]
 constructor
 ·rintro (h1 | h1)
  ·exact h1
  have h2:flag=fs[k]:=by simpa using h1
  exact absurd h2.symm h
 exact .inl
theorem namedP_len (F:Fl) (fs:List Int) (kind:Int) (k:Nat):(namedP F fs kind k).length≤k:=by
 unfold namedP
 rw [List.length_map]
 exact Nat.le_trans (List.length_filter_le _ _) (by rw [List.length_range];exact Nat.le_refl _)
def outI (out:List Int) (b:Bool) (i:Nat):List Int:=out++(if b=true then [(i:Int)] else [])
theorem so_qNamed (ub:Nat) (F:Fl) (es:List En) (v:Value) (fs:List Int) (kind:Int) (w:World) (h:QTabAt w ub F es) (hok:FlOk F) (hf:IS w v fs) (hnd:fs.Nodup) (hfl:fs.length≤65536) :
  Calls Tryz.prog 55 #[.pointer (some ⟨ub,0,none⟩),v,.int .i64 kind] w fun e w'=>∃v',e=.returned v'∧IS w' v' (namedR F fs kind)∧Below w.heap.size w w':=by
 obtain⟨i0,hi,hz0,hz1,hz2⟩:=info_parts int_info3
 obtain⟨rf,A,cp,rs,c0,c12,hrm,hx2,hx3,-⟩:=h.file
 have hxl:rs.length=F.rls.length:=by rw [←hrm];simp
 have hrl:=hok.rls;obtain⟨-,A',cp',hv,hcap,hcells⟩:=hx2
 cases hv
 obtain⟨pf,cf,rfl,hcf,hcF⟩:=hf;have HF:=hid hcF;have HA:=hid hcells;have HI:=hid hx3;have HRm:=hid hrm;have HNd:=hid hnd;have hul:ub < w.heap.size:=block_lt_of_cell? _ _ c0;have hrl2:rf < w.heap.size:=block_lt_of_cell? _ _ c12;obtain⟨N,hN⟩:∃N,rs.length=N:=⟨_,rfl⟩;rw [hN] at c12 hcap hxl;have HN:=hid hN;have HNF:Hid (F.rls.length=N):=hid hxl.symm
 have hn:N≤65536:=by omega
 clear h hcells hcF hx3 hrm hnd hN hrl hok hxl
 go_enter Tryz.func55,Tryz.ntmps55
 go_wp2_with fail
 go_loopw [7,8,9,10] (fun s7 x _ _ wr=>∃(i:Nat) (out:List Int),i≤N∧x=.int .i64 i∧Hid (wr.ownsRow w.heap.size 3 1 s7 out.length (out.map (Value.int .i64)))∧Hid (out=namedP F fs kind i)∧Hid (Below w.heap.size w wr)) (fun _ x _ _ _=>N - (intOf x).toNat)
 case atStart=>exact⟨0,[],Nat.zero_le _,rfl,hid (World.ownsRow_nil _ _ _ _),hid rfl,hid (Below.refl _ _)⟩
 case round =>
 obtain⟨i,out,hiN,rfl,HO,HE,HB⟩:=hrel
 have d0:=(HB.o.cell (p:=⟨ub,0,none⟩) hul).trans c0;have d12:=(HB.o.cell (p:=⟨rf,12,none⟩) hrl2).trans c12;have hsz:=HB.o.size
 by_cases hlt:i < N
 ·have hkr:i < rs.length:=by have:=HN.o;omega
  have hkF:i < F.rls.length:=by have:=HNF.o;omega
  obtain⟨g,o,rfl,hc⟩:=HA.o.resolve_left (by have:=HN.o;omega)
  obtain⟨q0,q1,q2,q3,q4,q5,q6,q7⟩:=qrls_at rs i hkr
  have key:∀j u,(qrls rs)[i*8+j]?=some u→wr.cell? ⟨g,o+i*8+j,none⟩=some u:=fun j u hj=>by
   have h:=hc _ _ hj
   rw [←Nat.add_assoc] at h
   exact (HB.o.cell (block_lt_of_cell? _ _ h)).trans h
  have e0:=key 0 _ q0;have e1:=key 1 _ q1;have e2:=key 2 _ q2;have e3:=key 3 _ q3;have e4:=key 4 _ q4;have e5:=key 5 _ q5;have e6:=key 6 _ q6;have e7:=key 7 _ q7;rw [Nat.add_zero] at e0
  have hr1:F.rls[i]=rs[i].1:=by have h:=HRm.o;simp [←h]
  have hsc:=namedP_succ F fs kind i
  have hgo:goesN F fs kind i=(decide (F.rls[i].kind=kind)&&fs.contains F.rls[i].flag):=by unfold goesN;rw [List.getElem?_eq_getElem hkF]
  rw [hr1] at hgo;obtain⟨pu,cu,hu,-⟩:=HI.o _ (List.getElem_mem hkr);obtain⟨x,hx⟩:∃x,rs[i]=x:=⟨_,rfl⟩;obtain⟨⟨rk,rfg,rc,rst,rad,rco,zs,rli⟩,u⟩:=x;rw [hx] at e0 e1 e2 e3 e4 e5 e6 e7 hu hgo;dsimp only at e0 e1 e2 e3 e4 e5 e6 e7 hu hgo
  subst hu
  have HSc:=hid hsc;have HGo:=hid hgo
  have hnk:(i:Int) < (N:Int):=by omega
  have hol:out.length≤i:=by rw [HE.o];exact namedP_len _ _ _ _
  clear hc q0 q1 q2 q3 q4 q5 q6 q7 key hr1 hsc hgo hx hkr hkF
  go_wp2_with fail
  have HX1:=hid (heap_alloc_new wr (.cells #[.int .i64 rk,.int .i64 rfg,.bool rc,.string rst,.string rad,.string rco,.slice pu zs.length cu,.int .i64 rli] 41));have HB1:=hid (HB.o.alloc HB.o.size (.cells #[.int .i64 rk,.int .i64 rfg,.bool rc,.string rst,.string rad,.string rco,.slice pu zs.length cu,.int .i64 rli] 41));have HO1:=hid (own_below HO.o ((Below.refl _ _).alloc (Nat.le_refl _) (.cells #[.int .i64 rk,.int .i64 rfg,.bool rc,.string rst,.string rad,.string rco,.slice pu zs.length cu,.int .i64 rli] 41)));obtain⟨w1,hw1⟩:∃W,wr.alloc (.cells #[.int .i64 rk,.int .i64 rfg,.bool rc,.string rst,.string rad,.string rco,.slice pu zs.length cu,.int .i64 rli] 41)=W:=⟨_,rfl⟩;obtain⟨xb,hxb⟩:∃n,wr.heap.size=n:=⟨_,rfl⟩;rw [hw1,hxb] at HX1;rw [hw1] at HB1 HO1 ⊢;rw [hxb];clear hw1 hxb e0 e1 e2 e3 e4 e5 e6 e7 d0 d12 hsz
  by_cases hkd:rk=kind
  ·have hb2:(rk==kind)=true:=by rw [beq_iff_eq];exact hkd
   have HGk:Hid (goesN F fs kind i=cAny fs rfg fs.length):=hid (by rw [HGo.o,hkd];unfold cAny;simp)
   clear hkd
   go_loopw [7,10] (fun s7 x wx=>∃(k:Nat) (out2:List Int),k≤fs.length∧x=.int .i64 k∧Hid (wx.ownsRow w.heap.size 3 1 s7 out2.length (out2.map (Value.int .i64)))∧Hid (out2=outI out (cAny fs rfg k) i)∧Hid (Below w.heap.size w wx)∧Hid (wx.heap[xb]?=some (.cells #[.int .i64 rk,.int .i64 rfg,.bool rc,.string rst,.string rad,.string rco,.slice pu zs.length cu,.int .i64 rli] 41 (0,0)))) (fun _ x _=>fs.length - (intOf x).toNat)
   case atStart=>exact⟨0,out,Nat.zero_le _,rfl,HO1,hid (by unfold outI cAny;simp),HB1,HX1⟩
   case round =>
   obtain⟨k,out2,hk,rfl,HO2,HE2,HB2,HX2⟩:=hrel
   have z0:=cell_of_heap HX2.o 0;have z1:=cell_of_heap HX2.o 1
   simp only [List.getElem?_toArray,List.getElem?_cons_zero,List.getElem?_cons_succ] at z0 z1
   by_cases hkl:k < fs.length
   ·obtain⟨b2,o2,rfl,hc2⟩:=HF.o.resolve_left (by omega)
    have c2:=hc2 k hkl
    have he2:fs.getD k 0=fs[k]:=by simp [List.getD,hkl]
    rw [he2] at c2;have f2:=(HB2.o.cell (block_lt_of_cell? _ _ c2)).trans c2
    have hhit:=fun h=>cAny_hit (flag:=rfg) HNd.o hkl h
    have hmiss:=fun h=>cAny_miss (flag:=rfg) hkl h
    obtain⟨f,hfk⟩:∃f,fs[k]=f:=⟨_,rfl⟩;rw [hfk] at f2 hhit hmiss
    have hki:(k:Int) < (fs.length:Int):=by omega
    have hsz2:=HB2.o.size
    have hlen2:out2.length≤65537:=by rw [HE2.o];unfold outI;rw [List.length_append];split<;>simp<;>omega
    clear hc2 c2 he2 hfk
    by_cases hfx:f=rfg
    ·have hb1:(f==rfg)=true:=by rw [beq_iff_eq];exact hfx
     obtain⟨ha,hb⟩:=hhit hfx
     have HEn:Hid (out2++[(i:Int)]=outI out (cAny fs rfg (k+1)) i):=hid (by rw [HE2.o,ha,hb];unfold outI;simp)
     clear hfx hhit hmiss ha hb
     go_wp2_with fail
     go_quiet (fail)
     go_wp2_with (at_builtin;refine wpList_push1 rfl _ _ 39 rfl w.heap.size 3 i0 (.int .i64 0) 8 Tryz.underlying39 hi hz0 hz1 hz2 rfl _ out2.length _ rfl (own_below HO2.o (drewN_below _)) _ rfl rfl ?c3 ?c4 hsz2 ?_)
     case c3=>unfold maxLen;omega
     case c4=>omega
     intro gg cap w7 hown hg
     have HO7:=hid hown;have HB7:=hid (below_push (below_drewN HB2.o _) (own_below HO2.o (drewN_below _)) hg (Nat.le_refl _) hsz2)
     have HX7:Hid (w7.heap[xb]?=some (.cells #[.int .i64 rk,.int .i64 rfg,.bool rc,.string rst,.string rad,.string rco,.slice pu zs.length cu,.int .i64 rli] 41 (0,0))):=hid ((grown_at hg _ (block_lt HX2.o) (fun e=>by
      obtain⟨-,-,cur,g3⟩:=own_ge HO2.o e
      rw [HX2.o] at g3
      injection g3 with g3
      injection g3 with _ g5 _
      exact absurd g5 (by decide))).trans HX2.o)
     clear hown hg
     go_wp2
     go_roundw
     case rel=>exact⟨k+1,out2++[(i:Int)],by omega,by go_num,hid (by rw [List.length_append,List.map_append];exact HO7.o),HEn,HB7,HX7⟩
     case measure=>simp [intOf];omega
    have hb1:(f==rfg)=false:=by rw [beq_eq_false_iff_ne];exact hfx
    have HEn:Hid (out2=outI out (cAny fs rfg (k+1)) i):=hid (by rw [hmiss hfx];exact HE2.o)
    clear hfx hhit hmiss
    go_wp2_with fail
    go_quiet (fail)
    go_wp2_with fail
    go_roundw
    case rel=>exact⟨k+1,out2,by omega,by go_num,hid (own_below HO2.o (drewN_below _)),HEn,hid (below_drewN HB2.o _),hid (((drewN_below _).block _ (block_lt HX2.o)).trans HX2.o)⟩
    case measure=>simp [intOf];omega
   obtain rfl:k=fs.length:=by omega
   have HEn:Hid (out2=namedP F fs kind (i+1)):=hid (by rw [HE2.o,HSc.o,HGk.o,HE.o];rfl)
   go_wp2_with fail
   go_roundw
   case rel=>exact⟨i+1,out2,by omega,by go_num,HO2,HEn,HB2⟩
   case measure=>simp [intOf];omega
  have hb2:(rk==kind)=false:=by rw [beq_eq_false_iff_ne];exact hkd
  have HEn:Hid (out=namedP F fs kind (i+1)):=hid (by rw [HSc.o,HGo.o,decide_eq_false hkd,HE.o];simp)
  have z0:=cell_of_heap HX1.o 0
  simp only [List.getElem?_toArray,List.getElem?_cons_zero,List.getElem?_cons_succ] at z0
  clear hkd
  go_loopw [7,10] (fun s7 x wx=>x=.int .i64 0∧s7=u7∧wx=w1) (fun _ _ _=>0)
  case atStart=>exact⟨rfl,rfl,rfl⟩
  case round =>
  obtain⟨rfl,rfl,rfl⟩:=hrel
  rcases Nat.eq_zero_or_pos fs.length with h0 | h0
  all_goals
   go_wp2_with fail
   go_roundw
   case rel=>exact⟨i+1,out,by omega,by go_num,HO1,HEn,HB1⟩
   case measure=>simp [intOf];omega
 obtain rfl:i=N:=by omega
 have HEm:Hid (out=namedR F fs kind):=hid (by rw [HE.o,←HNF.o,namedP_all])
 go_wp2_with fail
 go_ret
 exact⟨_,rfl,by rw [←HEm.o];exact IS.of_own HO.o,HB.o⟩
end Go.Proofs.YtfkblpjfknfgbaaGreatDoor
