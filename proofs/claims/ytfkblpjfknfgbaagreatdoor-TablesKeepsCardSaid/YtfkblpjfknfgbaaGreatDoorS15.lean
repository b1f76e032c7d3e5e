/-
 Parts of the proof: DC6, DR2, DC7, DP0, DP1, DC8.
-/
import Derived.BigQuiet
import Derived.Test.YtfkblpjfknfgbaaGreatDoorRows
import Derived.Test.YtfkblpjfknfgbaaGreatDoorS14
import Derived.Test.YtfkblpjfknfgbaaGreatDoorS9
import Derived.Test.YtfkblpjfknfgbaaGreatDoorS3
import Derived.Test.YtfkblpjfknfgbaaGreatDoorS1
set_option linter.unusedVariables false
set_option linter.unusedSimpArgs false
set_option maxHeartbeats 8000000
set_option maxRecDepth 100000
open Go.Maps Go.RowKit
open Go.Lib (hid cell_of_heap frozen_of_heap wpList_append_run run_eql_slice_nil)
open Go.World (block_lt_of_cell?)
namespace Go.Proofs.YtfkblpjfknfgbaaGreatDoor
theorem drowCells_at:∀(rs:List RowIn) (k:Nat) (h:k < rs.length),(rowCells rs)[k*2]?=some (.int .i64 rs[k].1)∧(rowCells rs)[k*2+1]?=some rs[k].2.1
 | [],_,hk=>absurd hk (Nat.not_lt_zero _)
 | c::r,0,_=>⟨rfl,rfl⟩
 | c::r,k+1,hk=>by
   have:=drowCells_at r k (by simpa using hk)
   have e:rowCells (c::r)=[.int .i64 c.1,c.2.1]++rowCells r:=by simp [rowCells]
   have key:∀j,(rowCells (c::r))[(k+1)*2+j]?=(rowCells r)[k*2+j]?:=fun j=>by
    rw [e,List.getElem?_append_right (by simp;omega)]
    congr 1
    simp;omega
   exact⟨(key 0).trans this.1,(key 1).trans this.2⟩
theorem drows_at {w0:World} {A:Option Addr} {n cap a:Nat} {all:List Row} (h:RowsM w0 (.slice A n cap) all) (ha:a < all.length) :
  ∃g o fv,A=some ⟨g,o,none⟩∧w0.cell? ⟨g,o+a*2,none⟩=some (.int .i64 all[a].1)∧w0.cell? ⟨g,o+a*2+1,none⟩=some fv∧Rd w0 1 fv all[a].2.length (strV all[a].2):=by
 obtain⟨rs,hab,hr,hd2⟩:=h
 have hl:rs.length=all.length:=by rw [←hab];simp [rowAbs]
 have hlr:a < rs.length:=by omega
 have hx:all[a]=((rs[a]).1,(rs[a]).2.2):=by subst hab;simp [rowAbs]
 obtain⟨-,A',cap',hv,hcap,hc⟩:=hr
 cases hv
 obtain⟨g,o,rfl,hc2⟩:=hc.resolve_left (by omega)
 obtain⟨q0,q1⟩:=drowCells_at rs a hlr
 have e0:=hc2 _ _ q0
 have e1:=hc2 _ _ q1
 rw [←Nat.add_assoc] at e1
 rw [hx]
 exact⟨g,o,_,rfl,e0,e1,(hd2 rs[a] (List.getElem_mem hlr)).rd⟩
def RowP (w:World) (P:Option Addr) (rest:List Row):Prop:=∀k (_:k < rest.length),∃g o fv,P=some ⟨g,o,none⟩∧w.cell? ⟨g,o+k*2,none⟩=some (.int .i64 rest[k].1)∧w.cell? ⟨g,o+k*2+1,none⟩=some fv∧Rd w 1 fv rest[k].2.length (strV rest[k].2)
theorem RowP.of {w:World} {g o n cap:Nat} {x:Row} {rest:List Row} (h:RowsM w (.slice (some ⟨g,o,none⟩) n cap) (x::rest)):RowP w (some ⟨g,o+2,none⟩) rest:=fun k hk=>by
 obtain⟨g',o',fv,hA,e0,e1,hr⟩:=drows_at h (a:=k+1) (by simp;omega)
 cases hA
 simp only [List.getElem_cons_succ] at e0 e1 hr
 rw [show o+(k+1)*2=o+2+k*2 by omega] at e0 e1
 exact⟨g,o+2,fv,rfl,e0,e1,hr⟩
theorem RowsM.dkeep {w w':World} {v:Value} {all:List Row} (h:RowsM w v all) (hb:Below w.heap.size w w'):RowsM w' v all:=by
 obtain⟨rs,h1,h2,h3⟩:=h
 exact⟨rs,h1,h2.keep hb,fun r hr=>(h3 r hr).keep hb⟩
theorem dicRows_bad {F:Fl} {E l0:Int} {row0:List ByteArray} {rest:List Row} (h:(headN row0).2≠0):dicRows F E ((l0,row0)::rest)=.error (l0,(headN row0).2):=by
 unfold headN at h ⊢
 rw [dicRows]
 by_cases h1:row0.length≠1
 ·rw [if_pos h1,if_pos h1]
 rw [if_neg h1] at h ⊢
 dsimp only at h ⊢
 rw [if_neg h1,if_pos h]
 rcases numErr_13 (fieldAt row0 0).data.toList 8192 with e | e
 ·exact absurd e h
 rw [e]
theorem dicRows_ok {F:Fl} {E l0:Int} {row0:List ByteArray} {rest:List Row} (h:(headN row0).2=0):dicRows F E ((l0,row0)::rest)=match dgo F (headN row0).1 0 rest with | .error p=>.error p | .ok xs=>if (xs.length:Int) < (headN row0).1 then .error (E,116) else .ok xs:=by
 unfold headN at h ⊢
 rw [dicRows]
 by_cases h1:row0.length≠1
 ·rw [if_pos h1] at h;simp at h
 rw [if_neg h1] at h ⊢
 dsimp only at h ⊢
 rw [if_neg h1,if_neg (by rw [h];simp)]
 rfl
structure RB (w W:World):Prop where
 base:Below w.heap.size w W
 res:W.heap[w.heap.size]?=some (.cells #[.int .i64 0,.int .i64 0,.int .i64 0] 60 (0,0))
section
variable {w W W':World}
theorem RB.start (w:World):RB w (w.alloc (.cells #[.int .i64 0,.int .i64 0,.int .i64 0] 60)):=⟨(Below.refl _ _).alloc (Nat.le_refl _) _,heap_alloc_new w _⟩
theorem RB.size (h:RB w W):w.heap.size+1≤W.heap.size:=block_lt h.res
theorem RB.kept {X:List Nat} (h:RB w W) (hk:Kept X W W') (hX:∀x∈X,w.heap.size+1≤x):RB w W' :=
 ⟨h.base.trans (hk.below (B:=w.heap.size) (by have:=h.size;omega) (fun x hx=>by have:=hX x hx;omega)),hk.at h.res (fun hm=>by have:=hX _ hm;omega)⟩
theorem RB.below (h:RB w W) (hb:Below W.heap.size W W'):RB w W':=h.kept (X:=[]) (Kept.of_below hb) (by simp)
theorem RB.q (h:RB w W) (j:Nat):W.cell? ⟨w.heap.size,j,none⟩=(#[.int .i64 0,.int .i64 0,.int .i64 0]:Array Value)[j]?:=cell_of_heap h.res j
theorem RB.z (h:RB w W) (j:Nat):W.frozen? ⟨w.heap.size,j,none⟩=false:=frozen_of_heap h.res j
theorem RB.done (h:RB w W) (a b c:Value):Below w.heap.size w (((W.setCell ⟨w.heap.size,0,none⟩ a).setCell ⟨w.heap.size,1,none⟩ b).setCell ⟨w.heap.size,2,none⟩ c):=((h.base.setCell (Nat.le_refl _) _).setCell (Nat.le_refl _) _).setCell (Nat.le_refl _) _
end
theorem entR_ne {F:Fl} {row:List ByteArray} {c:Int} (h:entR F row=.error c):c≠0:=by
 unfold entR at h
 split at h
 ·cases h;decide
 split at h
 rename_i wd rest cut e _
 split at h
 ·cases h;assumption
 unfold enWord at h
 split at h
 ·cases h;decide
 split at h
 ·cases h;decide
 split at h
 ·cases h
 unfold enFlags at h
 split at h
 ·cases h;assumption
 split at h
 ·cases h
 cases h;decide
theorem DW.grown {W wr w1:World} {mb wb n:Nat} {lv:Value} {xs:List EnM} {hd:ByteArray→Value} {ix:ByteArray→List Int} (h:DW W wr mb wb n lv xs hd ix) (hg:wr.grownBy w1 lv.ownBlock) :
  w1.heap[wb]?=some (.cells #[lv,.map (some mb)] 136 (0,0))∧∀y,y < wr.heap.size→lv.ownBlock≠some y→w1.heap[y]?=wr.heap[y]?:=by
 obtain⟨a1,-⟩:=h.apart
 obtain⟨L,hL⟩:∃L:List Nat,L=(match lv.ownBlock with | some g=>[g] | none=>[]):=⟨_,rfl⟩
 have hLm:∀g,g∈L→lv.ownBlock=some g:=fun g hm=>by
  rw [hL] at hm
  cases hb:lv.ownBlock with
  | none=>rw [hb] at hm;simp at hm
  | some g'=>rw [hb] at hm;simp at hm;rw [hm]
 have hk1:Kept L wr w1:=Kept.grown hg (fun k hk=>by rw [hL,hk];simp)
 exact⟨hk1.at h.words (fun hm=>(a1 _ (hLm _ hm)).2.1 rfl),fun y hy hne=>hk1.block y hy (fun hm=>hne (hLm y hm))⟩
theorem entR_size {F:Fl} {row:List ByteArray} {x:En} (h:entR F row=.ok x):x.1.size≤64:=by
 unfold entR at h
 split at h
 ·cases h
 split at h
 rename_i wd rest cut e _
 split at h
 ·cases h
 unfold enWord at h
 split at h
 ·cases h
 split at h
 ·cases h
 rename_i h64
 have hm:(mkS wd).size=wd.length:=mkS_size wd
 split at h
 ·cases h;show (mkS wd).size≤64;omega
 unfold enFlags at h
 split at h
 ·cases h
 split at h
 ·cases h;show (mkS wd).size≤64;omega
 cases h
theorem grown_at {w w1:World} {r:Option Nat} (hg:w.grownBy w1 r) (y:Nat) (hy:y < w.heap.size) (hne:r≠some y):w1.heap[y]?=w.heap[y]?:=by
 cases r with
 | none=>exact (Kept.grown (E:=[]) hg (fun k hk=>by cases hk)).block y hy (by simp)
 | some g=>exact (Kept.grown (E:=[g]) hg (fun k hk=>by cases hk;simp)).block y hy (by simp only [List.mem_singleton];intro e;exact hne (by rw [e]))
theorem dint_info:(Tryz.prog.info? 3).map (fun i=>(i.zero,i.size,i.bytes))=some (some (.int .i64 0),1,8):=by kernel_rfl
theorem ent_info:(Tryz.prog.info? 35).map (fun i=>(i.zero,i.size,i.bytes))=some (some (.agg #[.string ByteArray.empty,.slice none 0 0]),2,40):=by kernel_rfl
theorem RB.ne {w W:World} (h:RB w W) {v:Value} {zs:List Int} (hf:FS W v zs):∀g o n c,v=.slice (some ⟨g,o,none⟩) n c→n≠0→g≠w.heap.size:=fun g o n c e hn e2=>by
 obtain⟨p,c',hv,-,hrow⟩:=hf
 rw [e] at hv
 injection hv with e3 e4 e5
 obtain⟨b,off,hp,hc⟩:=hrow.resolve_left (by omega)
 rw [←e3] at hp
 cases hp
 have h1:=hc 0 (by omega)
 rw [e2,Nat.add_zero,cell_of_heap h.res] at h1
 rcases o with _ | _ | _ | o
 ·simp at h1
 ·simp at h1
 ·simp at h1
 ·simp at h1
theorem WordsAt.fin {w W wr:World} {mb wb n:Nat} {lv:Value} {xs:List EnM} {hd:ByteArray→Value} {ix:ByteArray→List Int} (h:DW W wr mb wb n lv xs hd ix) (hr:RB w wr) (hw:w.heap.size < W.heap.size) (hwb:wb≠w.heap.size) (hix:ix=posS (entAbs xs)) (a b c:Value) :
  WordsAt (((wr.setCell ⟨w.heap.size,0,none⟩ a).setCell ⟨w.heap.size,1,none⟩ b).setCell ⟨w.heap.size,2,none⟩ c) wb (entAbs xs):=by
 have hk:Kept [w.heap.size] wr (((wr.setCell ⟨w.heap.size,0,none⟩ a).setCell ⟨w.heap.size,1,none⟩ b).setCell ⟨w.heap.size,2,none⟩ c):=(((Kept.refl _ wr).set _ _ _ (.inl (by simp))).set _ _ _ (.inl (by simp))).set _ _ _ (.inl (by simp))
 refine⟨mb,lv,xs,hk.at h.words (by simpa using hwb),rfl,Rd.of_own (hk.own h.list (fun g hg hm=>by have:=(own_ge h.list hg).1;simp at hm;omega)),fun x hx=>?_,W.heap.size,n,hd,?_⟩
 rotate_left
 ·rw [←hix]
  refine h.found.kept hk ?_ (fun s g hg hm=>by have:=(own_ge (h.found.rows s) hg).1;simp at hm;omega)
  simp only [List.mem_singleton]
  intro e
  obtain⟨D,⟨es,clock,hb,-⟩,-⟩:=h.found.map
  rw [e,hr.res] at hb
  cases hb
 obtain⟨h1,h2⟩:=h.fl x hx
 exact h1.blocks (fun g o n c e hn=>hk.block g (h2 g o n c e hn).1 (by simpa using hr.ne h1 g o n c e hn))
theorem entAbs_len (xs:List EnM):(entAbs xs).length=xs.length:=by simp [entAbs]
theorem field_spec (F:Fl) (vr va vc vl:Value) (W:World):(Instr.field 83 (.agg #[.int .i64 F.kind,.string F.charset,.string F.tryT,.int .u16 F.s0,.int .u16 F.s1,.int .u16 F.s2,.int .u16 F.s3,.int .u16 F.s4,.int .i64 F.least,vr,va,vc,vl]) 3).run Tryz.prog W=.ok (.agg #[.int .u16 F.s0,.int .u16 F.s1,.int .u16 F.s2,.int .u16 F.s3,.int .u16 F.s4]) W:=by
 first | kernel_rfl | rfl | simp [go_sem]
theorem FndM.start {w:World} {mb:Nat} (B:Nat) (hb:w.heap[mb]?=some (.map #[] 0)):FndM B w mb 0 (fun _=>.slice none 0 0) (fun _=>[]):=by
 obtain⟨D,⟨es,clock,h1,F,hs,hD⟩,h2⟩:=(FndM.made w).map
 have h3:=heap_alloc_new w (.map #[] 0)
 rw [h1] at h3
 have h4:=Option.some.inj h3
 rw [h4] at h1
 injection h4 with e1 e2
 subst e1 e2
 exact⟨⟨D,⟨#[],0,hb,F,hs,hD⟩,h2⟩,fun _=>World.ownsRow_nil _ _ _ _,fun _ _ _ _ h=>by simp [Value.ownBlock] at h,fun _=>Nat.zero_le _⟩
theorem DW.start {W:World} {mb wb:Nat} (hm:W.heap[mb]?=some (.map #[] 0)) (hw:W.heap[wb]?=some (.cells #[.slice none 0 0,.map (some mb)] 136 (0,0))):DW W W mb wb 0 (.slice none 0 0) [] (fun _=>.slice none 0 0) (fun _=>[]) :=
 ⟨Kept.refl _ _,block_lt hm,block_lt hw,hw,World.ownsRow_nil _ _ _ _,FndM.start _ hm,fun x hx=>by cases hx⟩
theorem so_dicRead (fb:Nat) (F:Fl) (s:ByteArray) (m0:Int) (w:World) (hf:FileAt w fb F) (hok:FlOk F) (h0:0 < w.heap.size) (hm:w.cell? ⟨0,0,none⟩=some (.int .i64 m0)) :
  Calls Tryz.prog 18 #[.pointer (some ⟨fb,0,none⟩),.string s] w (DicP (dicR F s.data.toList) w):=by
 have HR0:=hid (RB.start w)
 obtain⟨wA,hwA⟩:∃W,w.alloc (.cells #[.int .i64 0,.int .i64 0,.int .i64 0] 60)=W:=⟨_,rfl⟩
 rw [hwA] at HR0
 have HM:Hid (∀W,Below w.heap.size w W→0 < W.heap.size∧W.cell? ⟨0,0,none⟩=some (.int .i64 m0)):=hid (fun W hW=>⟨Nat.lt_of_lt_of_le h0 hW.size,(hW.cell (block_lt_of_cell? _ _ hm)).trans hm⟩)
 have HSp:=hid (Split_any s m0 wA (HM.out wA HR0.out.base).1 (HM.out wA HR0.out.base).2)
 have HRo:Hid (∀W,Below w.heap.size w W→Calls Tryz.prog 41 #[.string s] W fun e W'=>∃v rs,e=.returned (.tuple #[v,.int .i64 (codeS s)])∧W'.ownsRow W.heap.size 133 2 v rs.length (rowCells rs)∧rowsRead W' rs∧rowAbs rs=rowsOf (eachOf s.data.toList)∧Below W.heap.size W W'):=hid (fun W hW=>Rows_any s m0 W (HM.out W hW).1 (HM.out W hW).2)
 have HF:=hid hf
 have HOk:=hid hok
 clear h0 hm hf hok
 by_cases hbig:65536 < s.size
 ·have HX:Hid (dicR F s.data.toList=.error (0,10)):=hid (by rw [dicR,if_pos (by rw [len_toList];exact hbig)])
  rw [if_pos hbig] at HSp
  rw [HX.out]
  clear hbig HX
  go_enter Tryz.func18,Tryz.ntmps18
  go_wp2_with (first
   | (go_at_call 42;refine HSp.out.mono ?_;rintro e w1 ⟨v1,rfl,-,hb⟩;have HR1:=hid (HR0.out.below hb);clear hb)
   | (go_at_call 48;refine (so_dfault _ _ _).mono ?_;rintro e w2 ⟨rfl,hb⟩;have HR2:=hid (HR1.out.below hb);clear hb;have q0:=HR2.out.q 0;have q1:=HR2.out.q 1;have q2:=HR2.out.q 2;simp only [List.getElem?_toArray,List.getElem?_cons_zero,List.getElem?_cons_succ] at q0 q1 q2;have z0:=HR2.out.z 0;have z1:=HR2.out.z 1;have z2:=HR2.out.z 2))
  refine bodyPost_ret (v:=.tuple #[.pointer none,.agg #[.int .i64 2,.int .i64 0,.int .i64 10]]) (by simp [results,Tryz.results18,go_sem,q0,q1,q2];try rfl) rfl ?_
  exact⟨HR2.out.done _ _ _,rfl⟩
 rw [if_neg hbig] at HSp
 have hE:eachOf s.data.toList=numbered 1 (linesOf s.data.toList):=by rw [eachOf,if_neg (by rw [len_toList];exact hbig)]
 have hnl:(eachOf s.data.toList).length=(linesOf s.data.toList).length:=by rw [hE,numbered_len]
 have HX:Hid (dicR F s.data.toList=dicRows F ((eachOf s.data.toList).length+1) (rowsOf (eachOf s.data.toList))):=hid (by rw [dicR,if_neg (by rw [len_toList];exact hbig),hnl])
 have hcode:codeS s=0:=by unfold codeS;rw [if_neg hbig]
 rw [hcode] at HRo
 have HBd:=hid (rows_bd s.data.toList)
 have hne2:=eachOf_len s.data.toList
 have hrn:(rowsOf (eachOf s.data.toList)).length≤65536:=Nat.le_trans (rowsOf_len _) hne2
 rw [HX.out]
 clear hbig hE hnl HX hcode
 obtain⟨nE,hnE⟩:∃n,(eachOf s.data.toList).length=n:=⟨_,rfl⟩
 rw [hnE] at HSp hne2 ⊢
 generalize rowsOf (eachOf s.data.toList)=all at *
 clear hnE
 have hwr:IntKind.i64.wrap ((nE:Int)+1)=(nE:Int)+1:=by rw [IntKind.wrap_i64];omega
 go_enter Tryz.func18,Tryz.ntmps18
 go_upto_region 6 with (go_at_call 42;refine HSp.out.mono ?_;rintro e w1 ⟨v1,rfl,ho1,hb⟩;obtain⟨A1,c1,rfl⟩:=own_slice ho1;have HR1:=hid (HR0.out.below hb);clear hb ho1)
 go_upto_region 7 with (go_at_call 41;refine (HRo.out _ HR1.out.base).mono ?_;rintro e w2 ⟨v2,rs,rfl,ho2,hrr,habs,hb⟩;have HR2:=hid (HR1.out.below hb);have HRw:Hid (RowsM w2 v2 all):=hid ⟨rs,habs,Rd.of_own ho2,hrr⟩;have hrl:rs.length=all.length:=(by rw [←habs];simp [rowAbs]);obtain⟨A2,c2,rfl⟩:=own_slice ho2;clear hb hrr habs ho2)
 have HRw2:Hid (RowsM w2 (.slice A2 all.length c2) all):=hid (by rw [←hrl];exact HRw.out)
 clear hrl HRw rs
 have HRw:=HRw2
 clear HRw2
 match all,hrn,HRw,HBd with
 | [],_,_,_ =>
  go_wp2_with (go_at_call 48;refine (so_dfault _ _ _).mono ?_;rintro e w3 ⟨rfl,hb⟩;have HR3:=hid (HR2.out.below hb);clear hb;have q0:=HR3.out.q 0;have q1:=HR3.out.q 1;have q2:=HR3.out.q 2;simp only [List.getElem?_toArray,List.getElem?_cons_zero,List.getElem?_cons_succ] at q0 q1 q2;have z0:=HR3.out.z 0;have z1:=HR3.out.z 1;have z2:=HR3.out.z 2)
  refine bodyPost_ret (v:=.tuple #[.pointer none,.agg #[.int .i64 2,.int .i64 ((nE:Int)+1),.int .i64 116]]) (by simp [results,Tryz.results18,go_sem,q0,q1,q2];try rfl) rfl ?_
  exact⟨HR3.out.done _ _ _,rfl⟩
 | (l0,row0)::rest,hrn,HRw,HBd =>
  have HCp:Hid (rest.length+1≤c2):=hid (by obtain⟨rs,hab,⟨-,A',cap',hv,hcap,-⟩,-⟩:=HRw.out;injection hv with _ e1 e2;have e3:((l0,row0)::rest).length=rest.length+1:=rfl;omega)
  obtain⟨g,o,fv,rfl,e0,e1,hrd⟩:=drows_at HRw.out (a:=0) (by simp)
  simp only [List.getElem_cons_zero,Nat.zero_mul,Nat.add_zero] at e0 e1 hrd
  have HRp:=hid (RowP.of HRw.out)
  obtain⟨-,b1,b2,-,-⟩:=HBd.out (l0,row0) (by simp)
  dsimp only at b1 b2
  have HHd:Hid (∀W,Below w2.heap.size w2 W→Calls Tryz.prog 49 #[.agg #[.int .i64 l0,fv]] W fun e w'=>e=.returned (.tuple #[.int .i64 (headN row0).1,.int .i64 (headN row0).2])∧Below W.heap.size W w'):=hid (fun W hW=>so_dhead l0 fv row0 W (hrd.keep hW) (fieldAt_le b2) (by omega))
  have HCw:Hid (∀W,Below w2.heap.size w2 W→W.cell? ⟨g,o,none⟩=some (.int .i64 l0)):=hid (fun W hW=>(hW.cell (block_lt_of_cell? _ _ e0)).trans e0)
  obtain⟨-,Af,cf,rfl,-,-⟩:=hrd
  have HDb:=hid (@dicRows_bad F ((nE:Int)+1) l0 row0 rest)
  have HDo:=hid (@dicRows_ok F ((nE:Int)+1) l0 row0 rest)
  have hlen:((l0,row0)::rest).length=rest.length+1:=rfl
  obtain⟨⟨cnt,hc⟩,hhd⟩:∃r,headN row0=r:=⟨_,rfl⟩
  rw [hhd] at HHd HDb HDo
  dsimp only at HHd HDb HDo
  rw [hlen] at HRw hrn ⊢
  have hl0:((((rest.length+1:Nat):Int))==0)=false:=by rw [beq_eq_false_iff_ne];omega
  clear hhd b1 b2 hlen
  go_upto_region 10 with (go_at_call 49;refine (HHd.out _ (Below.refl _ _)).mono ?_;rintro e w3 ⟨rfl,hb⟩;have HR3:=hid (HR2.out.below hb);have HL3:=hid hb;clear hb)
  clear e0 e1
  have e0:=HCw.out w3 HL3.out
  by_cases hhc:hc=0
  ·subst hhc
   have HRd:=hid (HDo.out rfl)
   clear e0
   have hmk:(Instr.makeMap 134 none).run Tryz.prog w3=.ok (.map (some w3.heap.size)) (w3.alloc (.map #[] 0)):=run_makeMap _ _
   obtain⟨wS,hwS⟩:∃W,(w3.alloc (.map #[] 0)).alloc (.cells #[.slice none 0 0,.map (some w3.heap.size)] 136)=W:=⟨_,rfl⟩
   have hbS:Below w3.heap.size w3 wS:=by rw [←hwS];exact ((Below.refl _ _).alloc (Nat.le_refl _) _).alloc (by simp) _
   have hmS:wS.heap[w3.heap.size]?=some (.map #[] 0):=by rw [←hwS,Below.heap_alloc _ _ _ (by simp)];exact heap_alloc_new w3 _
   have hdS:wS.heap[w3.heap.size+1]?=some (.cells #[.slice none 0 0,.map (some w3.heap.size)] 136 (0,0)):=by
    have:=heap_alloc_new (w3.alloc (.map #[] 0)) (.cells #[.slice none 0 0,.map (some w3.heap.size)] 136)
    rw [World.size_alloc] at this
    rw [←hwS];exact this
   have HRS:=hid (HR3.out.below hbS)
   have HLS:=hid (HL3.out.trans (hbS.mono HL3.out.size))
   have HMS:=hid (⟨hmS,hdS⟩:_∧_)
   clear hbS hmS hdS
   have HFd:Hid (∀W vr va vc vl,(Instr.field 83 (.agg #[.int .i64 F.kind,.string F.charset,.string F.tryT,.int .u16 F.s0,.int .u16 F.s1,.int .u16 F.s2,.int .u16 F.s3,.int .u16 F.s4,.int .i64 F.least,vr,va,vc,vl]) 3).run Tryz.prog W=.ok (.agg #[.int .u16 F.s0,.int .u16 F.s1,.int .u16 F.s2,.int .u16 F.s3,.int .u16 F.s4]) W):=hid (fun W vr va vc vl=>field_spec F vr va vc vl W)
   go_upto_region 13 with fail
   go_upto_region 14 with (go_at_call 30;refine (so_Affixes fb F _ (HF.out.keep HRS.out.base) HOk.out).mono ?_;rintro e w5 ⟨⟨vr,va,vc,vl⟩,rfl,-,hb⟩;have HB5:=hid hb;clear hb;have hfd:=HFd.out w5 vr va vc vl;unfold affV affA;dsimp only)
   obtain⟨w6,hw6⟩:∃W,w5.alloc (.cells #[.int .u16 F.s0,.int .u16 F.s1,.int .u16 F.s2,.int .u16 F.s3,.int .u16 F.s4] 77)=W:=⟨_,rfl⟩
   have hb6:Below w5.heap.size w5 w6:=by rw [←hw6];exact (Below.refl _ _).alloc (Nat.le_refl _) _
   have HSp6:Hid (w6.heap[w5.heap.size]?=some (.cells #[.int .u16 F.s0,.int .u16 F.s1,.int .u16 F.s2,.int .u16 F.s3,.int .u16 F.s4] 77 (0,0))):=hid (by rw [←hw6];exact heap_alloc_new w5 _)
   have hbS6:Below wS.heap.size wS w6:=HB5.out.trans (hb6.mono HB5.out.size)
   have HR6:=hid (HRS.out.below hbS6)
   have HL6:=hid (HLS.out.trans (hbS6.mono HLS.out.size))
   have HD0:Hid (DW w6 w6 w3.heap.size (w3.heap.size+1) 0 (.slice none 0 0) [] (fun _=>.slice none 0 0) (fun _=>[])):=hid (DW.start ((hbS6.block _ (block_lt HMS.out.1)).trans HMS.out.1) ((hbS6.block _ (block_lt HMS.out.2)).trans HMS.out.2))
   have hszS:wS.heap.size=w3.heap.size+2:=by rw [←hwS];simp
   have hsb0:w3.heap.size+2≤w5.heap.size:=by have:=HB5.out.size;omega
   rw [hw6]
   clear hszS hw6 hwS hfd hb6 hbS6 HB5 HRS HLS HMS hmk
   have hcap:=HCp.out
   by_cases hr0:rest.length=0
   ·obtain rfl:=List.eq_nil_of_length_eq_zero hr0
    have HD0w:Hid (w6.cell? ⟨w3.heap.size+1,0,none⟩=some (.slice none 0 0)):=hid HD0.out.c0
    have hwS6:w.heap.size < w6.heap.size:=by have:=HR6.out.size;omega
    have HWf:=hid (WordsAt.fin HD0.out HR6.out hwS6 (by have:=HR3.out.size;omega) rfl)
    have hsz3:=HR3.out.size
    clear HRp HRw HCw hcap HCp hr0
    go_wp2_with fail
    all_goals
     go_loopw [13,16,65] (fun _ _ y wr=>y=.int .i64 0∧wr=w6) (fun _ _ _ _=>0)
     case atStart=>exact⟨rfl,rfl⟩
     case round =>
     obtain⟨rfl,hwr6⟩:=hrel
     subst hwr6
     have c0:=HD0w.out
     by_cases hlc:(0:Int) < cnt
     ·have HX:Hid (dicRows F ((nE:Int)+1) [(l0,row0)]=.error ((nE:Int)+1,116)):=hid (by rw [HRd.out,dgo_nil];dsimp only;rw [if_pos (by simpa using hlc)])
      go_wp2_with (go_at_call 48;refine (so_dfault _ _ _).mono ?_;rintro e w8 ⟨rfl,hb⟩;have HR8:=hid (HR6.out.below hb);clear hb;have q0:=HR8.out.q 0;have q1:=HR8.out.q 1;have q2:=HR8.out.q 2;simp only [List.getElem?_toArray,List.getElem?_cons_zero,List.getElem?_cons_succ] at q0 q1 q2;have z0:=HR8.out.z 0;have z1:=HR8.out.z 1;have z2:=HR8.out.z 2)
      refine bodyPost_ret (v:=.tuple #[.pointer none,.agg #[.int .i64 2,.int .i64 ((nE:Int)+1),.int .i64 116]]) (by simp [results,Tryz.results18,go_sem,q0,q1,q2];try rfl) rfl ?_
      rw [HX.out]
      exact⟨HR8.out.done _ _ _,rfl⟩
     have HX:Hid (dicRows F ((nE:Int)+1) [(l0,row0)]=.ok []):=hid (by rw [HRd.out,dgo_nil];dsimp only;rw [if_neg (by simpa using hlc)])
     have q0:=HR6.out.q 0
     have q1:=HR6.out.q 1
     have q2:=HR6.out.q 2
     simp only [List.getElem?_toArray,List.getElem?_cons_zero,List.getElem?_cons_succ] at q0 q1 q2
     have z0:=HR6.out.z 0
     have z1:=HR6.out.z 1
     have z2:=HR6.out.z 2
     go_wp2_with fail
     refine bodyPost_ret (v:=.tuple #[.pointer (some ⟨w3.heap.size+1,0,none⟩),.agg #[.int .i64 0,.int .i64 0,.int .i64 0]]) (by simp [results,Tryz.results18,go_sem,q0,q1,q2];try rfl) rfl ?_
     rw [HX.out]
     exact⟨HR6.out.done _ _ _,w3.heap.size+1,rfl,HWf.out _ _ _,by omega⟩
   have hc1:¬c2=1:=by omega
   obtain⟨w7,hw7⟩:∃W:World,W=w6:=⟨_,rfl⟩
   go_cut [63,64,65] from 62 to 65 (fun p q r W=>∃P C,p=.slice P rest.length C∧q=.int .i64 (rest.length:Int)∧r=.int .i64 0∧W=w7∧rest.length≤C∧Hid (RowP w2 P rest))
   case first =>
    go_wp2_with fail
    all_goals go_meet
    all_goals exact⟨_,_,rfl,rfl,rfl,hw7.symm,by omega,HRp⟩
   case rest =>
   obtain⟨P,C,rfl,rfl,rfl,hwc,hC,HRp2⟩:=hcut
   rw [hwc,hw7]
   clear hwc hw7 wc w7 HRp HRw hcap HCp hl0 HCw hc1 hr0
   obtain⟨sb,hsb⟩:∃n,w5.heap.size=n:=⟨_,rfl⟩
   obtain⟨mb,hmb⟩:∃n,w3.heap.size=n:=⟨_,rfl⟩
   have h36:w2.heap.size≤mb:=by rw [←hmb];exact HL3.out.size
   rw [hsb] at HSp6 hsb0 ⊢
   rw [hmb] at HD0 hsb0 ⊢
   clear hsb hmb
   go_wp2_with fail
   go_loopw [13,16,65] (fun _ _ y wr=>∃(k:Nat) (lv:Value) (xs:List EnM) (hd:ByteArray→Value) (ix:ByteArray→List Int),k≤rest.length∧y=.int .i64 k∧Hid (DW w6 wr mb (mb+1) k lv xs hd ix)∧Hid (DLeft F cnt rest k (entAbs xs))∧Hid (ix=posS (entAbs xs))) (fun _ _ y _=>rest.length - (intOf y).toNat)
   case atStart=>exact⟨0,_,[],_,_,Nat.zero_le _,rfl,HD0,hid (DLeft.start _ _ _),hid rfl⟩
   case round =>
   obtain⟨k,lv,xs,hd,ix,hk,rfl,HD,HDl,HIX⟩:=hrel
   have HIL:Hid (∀x:En,updS ix x.1 (ix x.1++[(k:Int)])=posS (entAbs xs++[x])):=hid (fun x=>by rw [HIX.out,posS_snoc,HDl.out.1])
   have HRr:Hid (RB w wr):=hid (HR6.out.kept HD.out.kept (by intro x hx;have h1:=HR2.out.size;simp at hx;omega))
   have HLr:Hid (Kept [mb,mb+1] w6 wr):=hid HD.out.kept
   clear HD0
   by_cases hlt:k < rest.length
   ·obtain⟨g3,o3,fv3,rfl,r0,r1,hrd⟩:=HRp2.out k hlt
    have HB2r:Hid (Below w2.heap.size w2 wr):=hid (HL6.out.trans (HLr.out.below HL6.out.size (by intro x hx;simp at hx;omega)))
    have r0':=(HB2r.out.cell (block_lt_of_cell? _ _ r0)).trans r0
    have r1':=(HB2r.out.cell (block_lt_of_cell? _ _ r1)).trans r1
    have hrd':=hrd.keep HB2r.out
    obtain⟨-,b1,b2,-,-⟩:=HBd.out rest[k] (List.mem_cons_of_mem _ (List.getElem_mem hlt))
    have HMn:=hid (HDl.out.many hlt)
    have HBdd:=hid (fun c=>HDl.out.bad (c:=c) hlt)
    have HMo:=hid (fun x=>HDl.out.more (x:=x) hlt)
    obtain⟨⟨l3,row3⟩,hr3⟩:∃r,rest[k]=r:=⟨_,rfl⟩
    rw [hr3] at r0' hrd' b1 b2 HMn HBdd HMo
    dsimp only at r0' hrd' b1 b2 HMn HBdd HMo
    obtain⟨-,Af3,cf3,rfl,-,-⟩:=id hrd'
    obtain⟨w8,hw8⟩:∃W,wr.alloc (.cells #[.int .i64 l3,.slice Af3 row3.length cf3] 133)=W:=⟨_,rfl⟩
    have hb8:Below wr.heap.size wr w8:=by rw [←hw8];exact (Below.refl _ _).alloc (Nat.le_refl _) _
    have hx8:w8.heap[wr.heap.size]?=some (.cells #[.int .i64 l3,.slice Af3 row3.length cf3] 133 (0,0)):=by rw [←hw8];exact heap_alloc_new wr _
    have HX8:=hid hx8
    have HL8:=hid hb8
    have HR8:=hid (HRr.out.below hb8)
    clear r0 r1 hrd hr3 hx8 hb8
    go_upto_region 17 with fail
    try rw [hw8]
    clear hw8 r0' r1'
    have x0:w8.cell? ⟨wr.heap.size,0,none⟩=some (.int .i64 l3):=cell_of_heap HX8.out 0
    have x1:w8.cell? ⟨wr.heap.size,1,none⟩=some (.slice Af3 row3.length cf3):=cell_of_heap HX8.out 1
    by_cases hkc:(k:Int)=cnt
    ·have HX:Hid (dicRows F ((nE:Int)+1) ((l0,row0)::rest)=.error (l3,116)):=hid (by rw [HRd.out,HMn.out hkc])
     have hkc1:((k:Int)==cnt)=true:=by rw [beq_iff_eq];exact hkc
     clear hkc
     go_wp2_with (go_at_call 48;refine (so_dfault _ _ _).mono ?_;rintro e w9 ⟨rfl,hb⟩;have HR9:=hid (HR8.out.below hb);clear hb;have q0:=HR9.out.q 0;have q1:=HR9.out.q 1;have q2:=HR9.out.q 2;simp only [List.getElem?_toArray,List.getElem?_cons_zero,List.getElem?_cons_succ] at q0 q1 q2;have z0:=HR9.out.z 0;have z1:=HR9.out.z 1;have z2:=HR9.out.z 2)
     refine bodyPost_ret (v:=.tuple #[.pointer none,.agg #[.int .i64 2,.int .i64 l3,.int .i64 116]]) (by simp [results,Tryz.results18,go_sem,q0,q1,q2];try rfl) rfl ?_
     rw [HX.out]
     exact⟨HR9.out.done _ _ _,rfl⟩
    have hkc1:((k:Int)==cnt)=false:=by rw [beq_eq_false_iff_ne];exact hkc
    have hsp:=(HL8.out.block _ (block_lt (HLr.out.at HSp6.out (by simp;omega)))).trans (HLr.out.at HSp6.out (by simp;omega))
    have p0:=cell_of_heap hsp 0
    have p1:=cell_of_heap hsp 1
    have p2:=cell_of_heap hsp 2
    have p3:=cell_of_heap hsp 3
    have p4:=cell_of_heap hsp 4
    simp only [List.getElem?_toArray,List.getElem?_cons_zero,List.getElem?_cons_succ] at p0 p1 p2 p3 p4
    have HEn:=hid (so_dentry fb F l3 (.slice Af3 row3.length cf3) row3 m0 w8 (HF.out.keep HR8.out.base) HOk.out (hrd'.keep HL8.out) (fieldAt_le b2) (by omega) (HM.out _ HR8.out.base).2)
    unfold EntP at HEn
    clear hsp hrd' b1 b2
    go_wp2_with fail
    cases hen:entR F row3 with
    | error c =>
     rw [hen] at HEn
     dsimp only at HEn
     have hc1:(c != 0)=true:=by rw [bne_iff_ne];exact entR_ne hen
     have HX:Hid (dicRows F ((nE:Int)+1) ((l0,row0)::rest)=.error (l3,c)):=hid (by rw [HRd.out,HBdd.out c hkc hen])
     clear hen p0 p1 p2 p3 p4 x1
     refine HEn.out.mono ?_
     rintro e w9 ⟨hb,rfl⟩
     have x9:=(hb.cell (block_lt_of_cell? _ _ x0)).trans x0
     have hx9:wr.heap.size < w9.heap.size:=block_lt_of_cell? _ _ x9
     have HR9:=hid (HR8.out.below (hb.alloc hb.size (.cells #[.string ⟨#[]⟩,.slice none 0 0] 35)))
     clear hb x0
     go_wp2_with (go_at_call 48;refine (so_dfault _ _ _).mono ?_;rintro e w10 ⟨rfl,hb⟩;have HR10:=hid (HR9.out.below hb);clear hb;have q0:=HR10.out.q 0;have q1:=HR10.out.q 1;have q2:=HR10.out.q 2;simp only [List.getElem?_toArray,List.getElem?_cons_zero,List.getElem?_cons_succ] at q0 q1 q2;have z0:=HR10.out.z 0;have z1:=HR10.out.z 1;have z2:=HR10.out.z 2)
     refine bodyPost_ret (v:=.tuple #[.pointer none,.agg #[.int .i64 2,.int .i64 l3,.int .i64 c]]) (by simp [results,Tryz.results18,go_sem,q0,q1,q2];try rfl) rfl ?_
     rw [HX.out]
     exact⟨HR10.out.done _ _ _,rfl⟩
    | ok x =>
     obtain⟨xw,xz⟩:=x
     rw [hen] at HEn
     dsimp only at HEn
     have HMx:=hid (HMo.out (xw,xz) hkc hen)
     have HXs:Hid (xw.size≤64):=hid (entR_size hen)
     clear hen p0 p1 p2 p3 p4 x0 x1
     refine HEn.out.mono ?_
     rintro e w9 ⟨hb,v,rfl,hfn⟩
     have hfn2:=hfn
     obtain⟨pv,cv,rfl,hcv,hrw⟩:=hfn2
     have hL9:Below wr.heap.size wr w9:=HL8.out.trans (hb.mono HL8.out.size)
     obtain⟨w10,hw10⟩:∃W,w9.alloc (.cells #[.string xw,.slice pv xz.length cv] 35)=W:=⟨_,rfl⟩
     have hb10:Below w9.heap.size w9 w10:=by rw [←hw10];exact (Below.refl _ _).alloc (Nat.le_refl _) _
     have HY10:Hid (w10.heap[w9.heap.size]?=some (.cells #[.string xw,.slice pv xz.length cv] 35 (0,0))):=hid (by rw [←hw10];exact heap_alloc_new w9 _)
     have HD10:=hid (HD.out.below (hL9.trans (hb10.mono hL9.size)))
     have HFS10:=hid (hfn.fs.keep hb10)
     have hs8:=HL8.out.size
     have hs9:=hL9.size
     have hkz:=HD.out.kept.size
     have hml:=HD.out.mlt
     have hwl:=HD.out.wlt
     have hmb9:mb+1 < w9.heap.size:=by omega
     have HX2:Hid (∀g o n c,(Value.slice pv xz.length cv)=.slice (some ⟨g,o,none⟩) n c→n≠0→g < w10.heap.size∧lv.ownBlock≠some g∧(∀s,(hd s).ownBlock≠some g)∧g≠mb∧g≠mb+1):=hid (fun g' o' n' c' e hn=>by
      cases e
      obtain⟨b',off',hp,hge,hH⟩:=hrw.resolve_left hn
      cases hp
      have h9:=block_lt_of_cell? _ _ (hH 0 (by simp;omega)).1
      have h9':g' < w9.heap.size:=h9
      have h10:=hb10.size
      exact⟨by omega,fun e=>by have:=(own_ge HD.out.list e).2.1;omega,fun s e=>by have:=(own_ge (HD.out.found.rows s) e).2.1;omega,by omega,by omega⟩)
     have hlvlt:∀g,lv.ownBlock=some g→g < w9.heap.size:=fun g e=>by have:=(own_ge HD.out.list e).2.1;omega
     have HLv:=hid hlvlt
     clear hfn hrw hb hlvlt
     go_upto_region 22 with fail
     try rw [hw10]
     clear hw10
     obtain⟨Al,cl,rfl⟩:=own_slice HD10.out.list
     obtain⟨i0,hi,hz0,hz1,hz2⟩:=info_parts ent_info
     have c0:=HD10.out.c0
     have z0:=HD10.out.z0
     have hxk:xs.length=k:=by have:=HDl.out.1;rw [entAbs_len] at this;exact this
     have hxb:xs.length≤65536:=by omega
     have HXk:=hid hxk
     clear hxk
     have hmw:mb+1 < w10.heap.size:=block_lt HD10.out.words
     have h610:w6.heap.size≤w10.heap.size:=HD10.out.kept.size
     have hy10:=block_lt HY10.out
     have HSy:Hid (∀W,Below w10.heap.size w10 W→W.cell? ⟨w9.heap.size,0,none⟩=some (.string xw)∧W.cell? ⟨w9.heap.size,1,none⟩=some (.slice pv xz.length cv)):=hid (fun W hW=>by
      have h:=(hW.block _ (block_lt HY10.out)).trans HY10.out
      exact⟨by rw [cell_of_heap h];rfl,by rw [cell_of_heap h];rfl⟩)
     go_cut [] from 89 to 98 (fun W=>∃(A':Option Addr) (c':Nat),Hid (DW w6 W mb (mb+1) k (.slice A' (xs.length+1) c') (xs++[(xw,.slice pv xz.length cv,xz)]) hd ix)∧Hid (W.heap[w9.heap.size]?=some (.cells #[.string xw,.slice pv xz.length cv] 35 (0,0))))
     case first =>
      refine wp_region_held_drew (S:=fun W=>W.cell? ⟨w9.heap.size,0,none⟩=some (.string xw)∧W.cell? ⟨w9.heap.size,1,none⟩=some (.slice pv xz.length cv)) (by kernel_rfl) ?_ (fun hHeld=>?_)
      ·exact HSy.out _ drew_below
      refine tkA 0 (some 89) hHeld ?_;try simp only [put_norm]
      refine tkA 1 (some 90) hHeld ?_;try simp only [put_norm]
      refine tkA 2 (some 91) hHeld ?_;try simp only [put_norm]
      refine tkA 3 (some 92) hHeld ?_;try simp only [put_norm]
      refine tkA 5 (some 94) hHeld ?_;try simp only [put_norm]
      refine wpAnyH_ready (rs:=[4,6]) (by kernel_rfl) (by simp) ?_
      refine AllReadyH.cons rfl (fun K hK=>?_) ?_
      ·go_simp
       refine hK.out _ _ ?_ (fun hHeld=>?_)
       ·first | exact HSy.out _ drew_below | exact HSy.out _ (drew_below.alloc (Nat.le_refl _) _) | exact HS12.out
       clear hK K
       refine rdy1 6 (fun K hK=>?_)
       go_simp
       refine hK.out _ _ ?_ (fun hHeld=>?_)
       ·first | exact HSy.out _ drew_below | exact HSy.out _ (drew_below.alloc (Nat.le_refl _) _) | exact HS12.out
       clear hK K
       refine rdy1 7 (fun K hK=>?_)
       refine step_pushL (w:=w10.drew) (by rfl) _ _ 85 (by rfl) w6.heap.size 35 i0 _ 2 40 Tryz.underlying85 hi hz0 hz1 hz2 rfl (by decide) (.slice Al xs.length cl) xs.length (entCells xs) (by rfl) (HD10.out.below drew_below).list #[.string xw,.slice pv xz.length cv] (by rfl) (by intro x hx;simp at hx;rcases hx with rfl | rfl<;>rfl) (by rfl) (by unfold maxLen;omega) (by omega) h610 ?_
       intro gg cc w11 hown hg11 hloc
       have hD:=HD10.out.below (drew_below (w:=w10))
       obtain⟨hw11,ho11⟩:=hD.grown hg11
       have HDp:=hid (hD.push (xw,.slice pv xz.length cv,xz) _ (HFS10.out.keep drew_below) HX2.out hown hg11 (hloc.imp id (fun ⟨g,h1,h2,_⟩=>⟨g,h1,h2⟩)))
       have hy11:w11.heap[w9.heap.size]?=some (.cells #[.string xw,.slice pv xz.length cv] 35 (0,0)):=(ho11 _ hy10 (fun e=>by have:=HLv.out _ e;omega)).trans HY10.out
       have c11:=cell_of_heap hw11 0
       have z11:=frozen_of_heap hw11 0
       simp only [List.getElem?_toArray,List.getElem?_cons_zero] at c11
       have HY12:Hid ((w11.setCell ⟨mb+1,0,none⟩ (.slice (some ⟨gg,0,none⟩) (xs.length+1) cc)).heap[w9.heap.size]?=some (.cells #[.string xw,.slice pv xz.length cv] 35 (0,0))):=hid (by rw [Below.heap_setCell _ _ _ _ (by simp;omega)];exact hy11)
       have HS12:Hid ((w11.setCell ⟨mb+1,0,none⟩ (.slice (some ⟨gg,0,none⟩) (xs.length+1) cc)).cell? ⟨w9.heap.size,0,none⟩=some (.string xw)∧(w11.setCell ⟨mb+1,0,none⟩ (.slice (some ⟨gg,0,none⟩) (xs.length+1) cc)).cell? ⟨w9.heap.size,1,none⟩=some (.slice pv xz.length cv)):=hid ⟨by rw [cell_of_heap HY12.out];rfl,by rw [cell_of_heap HY12.out];rfl⟩
       have HS11:Hid (w11.cell? ⟨w9.heap.size,0,none⟩=some (.string xw)∧w11.cell? ⟨w9.heap.size,1,none⟩=some (.slice pv xz.length cv)):=hid ⟨by rw [cell_of_heap hy11];rfl,by rw [cell_of_heap hy11];rfl⟩
       clear hown hg11 hloc hD hw11 ho11 hy11
       refine hK.out _ _ ?_ (fun hHeld=>?_)
       ·exact HS11.out
       clear hK K
       refine tkA 8 (some 97) hHeld ?_;try simp only [put_norm]
       refine tkA 9 (some 98) hHeld ?_;try simp only [put_norm]
       refine rdy1 10 (fun K hK=>?_)
       go_simp
       refine hK.out _ _ ?_ (fun hHeld=>?_)
       ·first | exact HSy.out _ drew_below | exact HSy.out _ (drew_below.alloc (Nat.le_refl _) _) | exact HS12.out
       clear hK K
       refine wpAnyH_done (by kernel_rfl) ?_ _
       go_wp2_with fail
       go_meet
       exact⟨_,_,HDp,HY12⟩
      refine AllReadyH.cons rfl (fun K hK=>?_) ?_
      ·go_simp
       refine hK.out _ _ ?_ (fun hHeld=>?_)
       ·first | exact HSy.out _ drew_below | exact HSy.out _ (drew_below.alloc (Nat.le_refl _) _) | exact HS12.out
       clear hK K
       refine rdy1 4 (fun K hK=>?_)
       go_simp
       refine hK.out _ _ ?_ (fun hHeld=>?_)
       ·first | exact HSy.out _ drew_below | exact HSy.out _ (drew_below.alloc (Nat.le_refl _) _) | exact HS12.out
       clear hK K
       refine rdy1 7 (fun K hK=>?_)
       refine step_pushL (w:=w10.drew) (by rfl) _ _ 85 (by rfl) w6.heap.size 35 i0 _ 2 40 Tryz.underlying85 hi hz0 hz1 hz2 rfl (by decide) (.slice Al xs.length cl) xs.length (entCells xs) (by rfl) (HD10.out.below drew_below).list #[.string xw,.slice pv xz.length cv] (by rfl) (by intro x hx;simp at hx;rcases hx with rfl | rfl<;>rfl) (by rfl) (by unfold maxLen;omega) (by omega) h610 ?_
       intro gg cc w11 hown hg11 hloc
       have hD:=HD10.out.below (drew_below (w:=w10))
       obtain⟨hw11,ho11⟩:=hD.grown hg11
       have HDp:=hid (hD.push (xw,.slice pv xz.length cv,xz) _ (HFS10.out.keep drew_below) HX2.out hown hg11 (hloc.imp id (fun ⟨g,h1,h2,_⟩=>⟨g,h1,h2⟩)))
       have hy11:w11.heap[w9.heap.size]?=some (.cells #[.string xw,.slice pv xz.length cv] 35 (0,0)):=(ho11 _ hy10 (fun e=>by have:=HLv.out _ e;omega)).trans HY10.out
       have c11:=cell_of_heap hw11 0
       have z11:=frozen_of_heap hw11 0
       simp only [List.getElem?_toArray,List.getElem?_cons_zero] at c11
       have HY12:Hid ((w11.setCell ⟨mb+1,0,none⟩ (.slice (some ⟨gg,0,none⟩) (xs.length+1) cc)).heap[w9.heap.size]?=some (.cells #[.string xw,.slice pv xz.length cv] 35 (0,0))):=hid (by rw [Below.heap_setCell _ _ _ _ (by simp;omega)];exact hy11)
       have HS12:Hid ((w11.setCell ⟨mb+1,0,none⟩ (.slice (some ⟨gg,0,none⟩) (xs.length+1) cc)).cell? ⟨w9.heap.size,0,none⟩=some (.string xw)∧(w11.setCell ⟨mb+1,0,none⟩ (.slice (some ⟨gg,0,none⟩) (xs.length+1) cc)).cell? ⟨w9.heap.size,1,none⟩=some (.slice pv xz.length cv)):=hid ⟨by rw [cell_of_heap HY12.out];rfl,by rw [cell_of_heap HY12.out];rfl⟩
       have HS11:Hid (w11.cell? ⟨w9.heap.size,0,none⟩=some (.string xw)∧w11.cell? ⟨w9.heap.size,1,none⟩=some (.slice pv xz.length cv)):=hid ⟨by rw [cell_of_heap hy11];rfl,by rw [cell_of_heap hy11];rfl⟩
       clear hown hg11 hloc hD hw11 ho11 hy11
       refine hK.out _ _ ?_ (fun hHeld=>?_)
       ·exact HS11.out
       clear hK K
       refine tkA 8 (some 97) hHeld ?_;try simp only [put_norm]
       refine tkA 9 (some 98) hHeld ?_;try simp only [put_norm]
       refine rdy1 10 (fun K hK=>?_)
       go_simp
       refine hK.out _ _ ?_ (fun hHeld=>?_)
       ·first | exact HSy.out _ drew_below | exact HSy.out _ (drew_below.alloc (Nat.le_refl _) _) | exact HS12.out
       clear hK K
       refine wpAnyH_done (by kernel_rfl) ?_ _
       go_wp2_with fail
       go_meet
       exact⟨_,_,HDp,HY12⟩
      exact AllReadyH.nil
     case rest =>
     obtain⟨A',c',HDp,HYp⟩:=hcut
     obtain⟨w12,hw12⟩:∃W:World,W=wc:=⟨_,rfl⟩
     rw [←hw12] at HDp HYp ⊢
     clear hw12 wc c0 z0 HD10 HY10 HSy HFS10 HX2 HLv hmw h610 hy10 hi hz0 hz1 hz2 i0 hcv hL9 hb10 hs8 hs9 hxb
     obtain⟨i0,hi,hz0,hz1,hz2⟩:=info_parts dint_info
     have hmw:mb+1 < w12.heap.size:=block_lt HDp.out.words
     have hy12:=block_lt HYp.out
     have h612:w6.heap.size≤w12.heap.size:=HDp.out.kept.size
     have hle:=HDp.out.found.le xw
     have hyn:(hd xw).ownBlock≠some w9.heap.size:=fun e=>by
      obtain⟨-,-,cur,g3⟩:=own_ge (HDp.out.found.rows xw) e
      rw [HYp.out] at g3
      injection g3 with g3
      injection g3 with _ g5 _
      exact absurd g5 (by decide)
     have hwn:(hd xw).ownBlock≠some (mb+1):=fun e=>(HDp.out.apart.2 xw _ e).2.1 rfl
     have HNe:=hid (⟨hyn,hwn⟩:_∧_)
     have HLk:Hid (∀W,Below w12.heap.size w12 W→(Instr.lookup 134 (.map (some mb)) (.string xw) false).run Tryz.prog W=.ok (hd xw) W):=hid (fun W hW=>(HDp.out.below hW).found.look xw (by have:=HXs.out;unfold maxLen;omega) (by kernel_rfl))
     have hlk1:=HLk.out w12.drew drew_below
     have hlk2:=HLk.out (w12.drew.alloc (.cells #[.int .i64 (k:Int)] 3)) (drew_below.alloc (Nat.le_refl _) _)
     have hlk3:(Instr.lookup 134 (.map (some mb)) (.string xw) false).run Tryz.prog (w12.alloc (.cells #[.int .i64 (k:Int)] 3)).drew=.ok (hd xw) (w12.alloc (.cells #[.int .i64 (k:Int)] 3)).drew:=hlk2
     have HSs:Hid (∀W:World,(W.heap[mb+1]?=w12.heap[mb+1]?∧W.heap[w9.heap.size]?=w12.heap[w9.heap.size]?)→W.cell? ⟨mb+1,1,none⟩=some (.map (some mb))∧W.cell? ⟨w9.heap.size,0,none⟩=some (.string xw)):=hid (fun W hW=>⟨by rw [cell_of_heap (hW.1.trans HDp.out.words)];rfl,by rw [cell_of_heap (hW.2.trans HYp.out)];rfl⟩)
     have HSb:Hid (∀W,Below w12.heap.size w12 W→W.cell? ⟨mb+1,1,none⟩=some (.map (some mb))∧W.cell? ⟨w9.heap.size,0,none⟩=some (.string xw)):=hid (fun W hW=>HSs.out W ⟨hW.block _ hmw,hW.block _ hy12⟩)
     clear hyn hwn
     go_upto_region 23 with fail
     refine wp_region_held_drew (S:=fun W=>W.cell? ⟨mb+1,1,none⟩=some (.map (some mb))∧W.cell? ⟨w9.heap.size,0,none⟩=some (.string xw)) (by kernel_rfl) ?_ (fun hHeld=>?_)
     ·exact HSb.out _ drew_below
     refine tkA 0 (some 99) hHeld ?_;try simp only [put_norm]
     refine tkA 1 (some 100) hHeld ?_;try simp only [put_norm]
     refine tkA 2 (some 101) hHeld ?_;try simp only [put_norm]
     refine tkA 3 (some 102) hHeld ?_;try simp only [put_norm]
     refine tkA 4 (some 103) hHeld ?_;try simp only [put_norm]
     refine tkA 5 (some 104) hHeld ?_;try simp only [put_norm]
     refine tkA 6 (some 105) hHeld ?_;try simp only [put_norm]
     refine tkA 7 (some 106) hHeld ?_;try simp only [put_norm]
     refine tkA 8 (some 107) hHeld ?_;try simp only [put_norm]
     refine tkA 9 (some 108) hHeld ?_;try simp only [put_norm]
     refine tkA 10 (some 109) hHeld ?_;try simp only [put_norm]
     refine tkA 11 (some 110) hHeld ?_;try simp only [put_norm]
     refine tkA 13 (some 112) hHeld ?_;try simp only [put_norm]
     refine wpAnyH_ready (rs:=[12,14]) (by kernel_rfl) (by simp) ?_
     refine AllReadyH.cons rfl (fun K hK=>?_) ?_
     ·go_simp
      refine hK.out _ _ ?_ (fun hHeld=>?_)
      ·first | exact HSb.out _ drew_below | exact HSb.out _ (drew_below.alloc (Nat.le_refl _) _) | exact HS14.out
      clear hK K
      refine rdy1 14 (fun K hK=>?_)
      go_simp
      refine hK.out _ _ ?_ (fun hHeld=>?_)
      ·first | exact HSb.out _ drew_below | exact HSb.out _ (drew_below.alloc (Nat.le_refl _) _) | exact HS14.out
      clear hK K
      refine rdy1 15 (fun K hK=>?_)
      refine step_pushL (w:=w12.drew) (by rfl) _ _ 39 (by rfl) w6.heap.size 3 i0 _ 1 8 Tryz.underlying39 hi hz0 hz1 hz2 rfl (by decide) (hd xw) (ix xw).length ((ix xw).map (Value.int .i64)) (by rfl) ((HDp.out.below drew_below).found.rows xw) #[.int .i64 (k:Int)] (by rfl) (by intro x hx;simp at hx;subst hx;rfl) (by rfl) (by unfold maxLen;omega) (by omega) h612 ?_
      intro gg cc w13 hown hg13 hloc
      obtain⟨w14,hrun,hDn,hkp⟩:=(HDp.out.below (drew_below (w:=w12))).store xw (k:Int) _ (by have:=HXs.out;unfold maxLen;omega) (by unfold maxLen;omega) hown hg13 (hloc.imp id (fun ⟨g,h1,h2,_⟩=>⟨g,h1,h2⟩))
      have HDn:=hid hDn
      have HS13:=hid (HSs.out w13 ⟨grown_at hg13 _ hmw HNe.out.2,grown_at hg13 _ hy12 HNe.out.1⟩)
      have HS14:=hid (HSs.out w14 ⟨hkp _ hmw HNe.out.2 (by omega),hkp _ hy12 HNe.out.1 (by omega)⟩)
      clear hown hg13 hloc hDn hkp
      refine hK.out _ _ ?_ (fun hHeld=>?_)
      ·exact HS13.out
      clear hK K
      refine rdy1 16 (fun K hK=>?_)
      go_simp
      refine hK.out _ _ ?_ (fun hHeld=>?_)
      ·first | exact HSb.out _ drew_below | exact HSb.out _ (drew_below.alloc (Nat.le_refl _) _) | exact HS14.out
      clear hK K
      refine wpAnyH_done (by kernel_rfl) ?_ _
      go_wp2_with fail
      go_roundw
      case rel=>exact⟨k+1,_,xs++[(xw,.slice pv xz.length cv,xz)],_,_,by omega,by go_num,HDn,hid (by rw [entAbs_snoc];exact HMx.out),hid (by rw [entAbs_snoc];exact HIL.out (xw,xz))⟩
      case measure=>simp [intOf];omega
     refine AllReadyH.cons rfl (fun K hK=>?_) ?_
     ·go_simp
      refine hK.out _ _ ?_ (fun hHeld=>?_)
      ·first | exact HSb.out _ drew_below | exact HSb.out _ (drew_below.alloc (Nat.le_refl _) _) | exact HS14.out
      clear hK K
      refine rdy1 12 (fun K hK=>?_)
      go_simp
      refine hK.out _ _ ?_ (fun hHeld=>?_)
      ·first | exact HSb.out _ drew_below | exact HSb.out _ (drew_below.alloc (Nat.le_refl _) _) | exact HS14.out
      clear hK K
      refine rdy1 15 (fun K hK=>?_)
      refine step_pushL (w:=w12.drew) (by rfl) _ _ 39 (by rfl) w6.heap.size 3 i0 _ 1 8 Tryz.underlying39 hi hz0 hz1 hz2 rfl (by decide) (hd xw) (ix xw).length ((ix xw).map (Value.int .i64)) (by rfl) ((HDp.out.below drew_below).found.rows xw) #[.int .i64 (k:Int)] (by rfl) (by intro x hx;simp at hx;subst hx;rfl) (by rfl) (by unfold maxLen;omega) (by omega) h612 ?_
      intro gg cc w13 hown hg13 hloc
      obtain⟨w14,hrun,hDn,hkp⟩:=(HDp.out.below (drew_below (w:=w12))).store xw (k:Int) _ (by have:=HXs.out;unfold maxLen;omega) (by unfold maxLen;omega) hown hg13 (hloc.imp id (fun ⟨g,h1,h2,_⟩=>⟨g,h1,h2⟩))
      have HDn:=hid hDn
      have HS13:=hid (HSs.out w13 ⟨grown_at hg13 _ hmw HNe.out.2,grown_at hg13 _ hy12 HNe.out.1⟩)
      have HS14:=hid (HSs.out w14 ⟨hkp _ hmw HNe.out.2 (by omega),hkp _ hy12 HNe.out.1 (by omega)⟩)
      clear hown hg13 hloc hDn hkp
      refine hK.out _ _ ?_ (fun hHeld=>?_)
      ·exact HS13.out
      clear hK K
      refine rdy1 16 (fun K hK=>?_)
      go_simp
      refine hK.out _ _ ?_ (fun hHeld=>?_)
      ·first | exact HSb.out _ drew_below | exact HSb.out _ (drew_below.alloc (Nat.le_refl _) _) | exact HS14.out
      clear hK K
      refine wpAnyH_done (by kernel_rfl) ?_ _
      go_wp2_with fail
      go_roundw
      case rel=>exact⟨k+1,_,xs++[(xw,.slice pv xz.length cv,xz)],_,_,by omega,by go_num,HDn,hid (by rw [entAbs_snoc];exact HMx.out),hid (by rw [entAbs_snoc];exact HIL.out (xw,xz))⟩
      case measure=>simp [intOf];omega
     exact AllReadyH.nil
   obtain rfl:k=rest.length:=by omega
   have hdone:=HDl.out.done
   obtain⟨Al,cl,rfl⟩:=own_slice HD.out.list
   have c0:=HD.out.c0
   have hxl:xs.length=rest.length:=by have:=HDl.out.1;rw [entAbs_len] at this;exact this
   have hwS6:w.heap.size < w6.heap.size:=by have:=HR6.out.size;omega
   by_cases hlc:(rest.length:Int) < cnt
   ·have HX:Hid (dicRows F ((nE:Int)+1) ((l0,row0)::rest)=.error ((nE:Int)+1,116)):=hid (by rw [HRd.out,hdone];dsimp only;rw [if_pos (by rw [entAbs_len,hxl];exact hlc)])
    rw [hxl] at c0
    clear hdone
    go_wp2_with (go_at_call 48;refine (so_dfault _ _ _).mono ?_;rintro e w8 ⟨rfl,hb⟩;have HR8:=hid (HRr.out.below hb);clear hb;have q0:=HR8.out.q 0;have q1:=HR8.out.q 1;have q2:=HR8.out.q 2;simp only [List.getElem?_toArray,List.getElem?_cons_zero,List.getElem?_cons_succ] at q0 q1 q2;have z0:=HR8.out.z 0;have z1:=HR8.out.z 1;have z2:=HR8.out.z 2)
    refine bodyPost_ret (v:=.tuple #[.pointer none,.agg #[.int .i64 2,.int .i64 ((nE:Int)+1),.int .i64 116]]) (by simp [results,Tryz.results18,go_sem,q0,q1,q2];try rfl) rfl ?_
    rw [HX.out]
    exact⟨HR8.out.done _ _ _,rfl⟩
   have HX:Hid (dicRows F ((nE:Int)+1) ((l0,row0)::rest)=.ok (entAbs xs)):=hid (by rw [HRd.out,hdone];dsimp only;rw [if_neg (by rw [entAbs_len,hxl];exact hlc)])
   have HWf:=hid (WordsAt.fin HD.out HRr.out hwS6 (by have:=HR2.out.size;omega) HIX.out)
   rw [hxl] at c0
   have q0:=HRr.out.q 0
   have q1:=HRr.out.q 1
   have q2:=HRr.out.q 2
   simp only [List.getElem?_toArray,List.getElem?_cons_zero,List.getElem?_cons_succ] at q0 q1 q2
   have z0:=HRr.out.z 0
   have z1:=HRr.out.z 1
   have z2:=HRr.out.z 2
   clear hdone
   go_wp2_with fail
   refine bodyPost_ret (v:=.tuple #[.pointer (some ⟨mb+1,0,none⟩),.agg #[.int .i64 0,.int .i64 0,.int .i64 0]]) (by simp [results,Tryz.results18,go_sem,q0,q1,q2];try rfl) rfl ?_
   rw [HX.out]
   exact⟨HRr.out.done _ _ _,mb+1,rfl,HWf.out _ _ _,by have:=HR2.out.size;omega⟩
  have hhc1:(hc != 0)=true:=by rw [bne_iff_ne];exact hhc
  have HRd:=hid (HDb.out hhc)
  go_wp2_with (go_at_call 48;refine (so_dfault _ _ _).mono ?_;rintro e w4 ⟨rfl,hb⟩;have HR4:=hid (HR3.out.below hb);clear hb;have q0:=HR4.out.q 0;have q1:=HR4.out.q 1;have q2:=HR4.out.q 2;simp only [List.getElem?_toArray,List.getElem?_cons_zero,List.getElem?_cons_succ] at q0 q1 q2;have z0:=HR4.out.z 0;have z1:=HR4.out.z 1;have z2:=HR4.out.z 2)
  refine bodyPost_ret (v:=.tuple #[.pointer none,.agg #[.int .i64 2,.int .i64 l0,.int .i64 hc]]) (by simp [results,Tryz.results18,go_sem,q0,q1,q2];try rfl) rfl ?_
  rw [HRd.out]
  exact⟨HR4.out.done _ _ _,rfl⟩
def QEnt (w:World) (v:Value) (es:List En):Prop:=∃xs:List EnM,entAbs xs=es∧Rd w 2 v xs.length (entCells xs)∧∀x∈xs,IS w x.2.1 x.2.2
theorem QEnt.keep {w w':World} {v:Value} {es:List En} (h:QEnt w v es) (hb:Below w.heap.size w w'):QEnt w' v es:=by
 obtain⟨xs,h1,h2,h3⟩:=h
 exact⟨xs,h1,h2.keep hb,fun x hx=>(h3 x hx).keep hb⟩
def DicQ (r:Except (Int×Int) (List En)) (w:World) (e:Ending) (w':World):Prop:=Below w.heap.size w w'∧match r with
 | .error p=>e=.returned (.tuple #[.slice none 0 0,.int .i64 p.1,.int .i64 p.2])
 | .ok es=>∃v,e=.returned (.tuple #[v,.int .i64 0,.int .i64 0])∧QEnt w' v es
def blkL (v:Value):List Nat:=match v.ownBlock with
 | some g=>[g]
 | none=>[]
theorem mem_blkL {v:Value} {g:Nat}:g∈blkL v↔v.ownBlock=some g:=by
 unfold blkL
 cases v.ownBlock with
 | none=>simp
 | some g'=>simp [eq_comm]
theorem IO.grow {w w':World} {v v' u:Value} {zs:List Int} (h:IO w (blkL v) u zs) (hg:w.grownBy w' v.ownBlock) (hl:v'.ownBlock=v.ownBlock∨∃g,v'.ownBlock=some g∧w.heap.size≤g):IO w' (blkL v') u zs:=by
 obtain⟨p,c,hv,hc,h2⟩:=h
 refine⟨p,c,hv,hc,?_⟩
 rcases Nat.eq_zero_or_pos zs.length with h0 | h0
 ·exact .inl h0
 obtain⟨b,off,hp,hL,h3⟩:=h2.resolve_left (by omega)
 have hlt:b < w.heap.size:=block_lt_of_cell? _ _ (h3 0 h0)
 rw [mem_blkL] at hL
 refine .inr ⟨b,off,hp,fun hm=>?_,fun j hj=>?_⟩
 ·rw [mem_blkL] at hm
  rcases hl with e | ⟨g,e,hge⟩
  ·rw [e] at hm;exact hL hm
  rw [e] at hm;cases hm;omega
 exact (World.cell?_of_block (grown_at hg b hlt hL)).trans (h3 j hj)
theorem qent_info:(Tryz.prog.info? 54).map (fun i=>(i.zero,i.size,i.bytes))=some (some (.agg #[.string ByteArray.empty,.slice none 0 0]),2,40):=by kernel_rfl
theorem so_qdicRead (rf:Nat) (F:Fl) (s:ByteArray) (w:World) (hf:QFileAt w rf F) (hok:FlOk F) :
  Calls Tryz.prog 72 #[.pointer (some ⟨rf,0,none⟩),.string s] w (DicQ (dicR F s.data.toList) w):=by
 obtain⟨i0,hi,hz0,hz1,hz2⟩:=info_parts qent_info
 have HRows:=hid (Rows01_any s w)
 by_cases hbig:65536 < s.size
 ·have HX:Hid (dicR F s.data.toList=.error (0,10)):=hid (by rw [dicR,if_pos (by rw [len_toList];exact hbig)])
  unfold codeS at HRows
  rw [if_pos hbig] at HRows
  rw [HX.out]
  clear HX hbig hi hz0 hz1 hz2 i0
  go_enter Tryz.func72,Tryz.ntmps72
  go_wp2_with (go_at_call 97;refine HRows.out.mono ?_;rintro e w1 ⟨v,rs,rfl,how,hrr,habs⟩;have HB1:=hid how.below;clear how hrr habs)
  go_ret3
  exact⟨HB1.out,rfl⟩
 have hcode:codeS s=0:=by unfold codeS;rw [if_neg hbig]
 rw [hcode] at HRows
 have HL:Hid (∀W,Calls Tryz.prog 98 #[.string s] W fun e w'=>∃v,e=.returned v∧Own W w' 9 1 v (linesOf s.data.toList).length (strV ((linesOf s.data.toList).map mkS))):=hid (fun W=>Lines01_any s W (by omega))
 have hx:dicR F s.data.toList=dicRows F ((linesOf s.data.toList).length+1) (rowsOf (eachOf s.data.toList)):=by rw [dicR,if_neg (by rw [len_toList];exact hbig)]
 rw [hx]
 obtain⟨nE,hnE⟩:∃n,(linesOf s.data.toList).length=n:=⟨_,rfl⟩
 have hnE2:nE≤65536:=by
  have:=eachOf_len s.data.toList
  rw [eachOf,if_neg (by rw [len_toList];exact hbig),numbered_len,hnE] at this
  exact this
 have hbd:=rows_bd s.data.toList
 have hle:=rows_le s.data.toList
 rw [hnE] at HL ⊢
 obtain⟨all,hall⟩:∃l,rowsOf (eachOf s.data.toList)=l:=⟨_,rfl⟩
 rw [hall] at HRows hbd hle ⊢
 have hwr:IntKind.i64.wrap ((nE:Int)+1)=(nE:Int)+1:=by rw [IntKind.wrap_i64];omega
 have HBd:=hid hbd
 have HF:=hid hf
 have HOk:=hid hok
 clear hnE hcode hbig hx hall hbd hf hok
 go_enter Tryz.func72,Tryz.ntmps72
 go_upto_region 4 with (go_at_call 97;refine HRows.out.mono ?_;rintro e w1 ⟨v,rs,rfl,how,hrr,habs⟩;have HOw:=hid how;have HRr:=hid hrr;have HAbs:=hid habs;clear how hrr habs)
 obtain⟨Av,cpv,rfl⟩:=own_slice HOw.out.own
 have hrl:rs.length=all.length:=by have h:=congrArg List.length HAbs.out;simpa [rowAbs] using h
 rw [hrl]
 obtain⟨N,hN⟩:∃n,all.length=n:=⟨_,rfl⟩
 have HRm:Hid (RowsM w1 (.slice Av N cpv) all):=hid ⟨rs,HAbs.out,by rw [←hN,←hrl];exact Rd.of_own HOw.out.own,HRr.out⟩
 have HB1:=hid HOw.out.below
 rw [hN] at hle ⊢
 have HN:=hid hN
 clear hrl hN HOw HRr HAbs HRows
 go_upto_region 5 with (go_at_call 98;refine (HL.out _).mono ?_;rintro e w2 ⟨v2,rfl,how2⟩;obtain⟨A2,cp2,rfl⟩:=own_slice how2.own;have HB2:=hid (HB1.out.trans (how2.below.mono HB1.out.size));have HRm2:=hid (HRm.out.dkeep how2.below);clear how2)
 clear HRm HL
 cases all with
 | nil =>
  obtain rfl:N=0:=HN.out.symm
  go_wp2_with fail
  go_ret3
  exact⟨HB2.out,rfl⟩
 | cons r0 rest =>
  obtain⟨l0,row0⟩:=r0
  have hNr:N=rest.length+1:=by rw [←HN.out];rfl
  subst hNr
  obtain⟨g,o,fv,rfl,c0,c1,hrd⟩:=drows_at HRm2.out (a:=0) (by simp)
  simp only [List.getElem_cons_zero,Nat.zero_mul,Nat.add_zero] at c0 c1 hrd
  obtain⟨-,A0,cp0,rfl,hcap0,hcells0⟩:=hrd
  have hb0:=HBd.out _ (List.mem_cons_self ..)
  have hgl:=block_lt_of_cell? _ _ c0
  have hn0:((rest.length:Int)+1==0)=false:=by rw [beq_eq_false_iff_ne];omega
  obtain⟨M,hM⟩:∃M,rest.length+1=M:=⟨_,rfl⟩
  have hn1:((M:Int)==0)=false:=by rw [beq_eq_false_iff_ne];omega
  have hM1:0 < M:=by omega
  rw [hM] at hle HRm2 ⊢
  have HMr:=hid hM
  clear hn0 hM HN
  by_cases h1:row0.length=1
  ·have hx0:(strV row0)[0]?=some (.string (fieldAt row0 0)):=by
    match row0,h1 with
    | [f],_=>rfl
   obtain⟨g1,o1,rfl,hc1⟩:=hcells0.resolve_left (by omega)
   have e1:=hc1 0 _ hx0
   rw [Nat.add_zero] at e1
   have hfs:(fieldAt row0 0).size≤65536:=by
    match row0,h1,hb0 with
    | [f],_,hb0=>exact hb0.2.2.1 f (by simp)
   have HNm:=hid (Number01_any (fieldAt row0 0) 8192 w2 (by unfold maxLen;omega) (by omega) (by omega))
   have hcb:=numVal_bd (fieldAt row0 0).data.toList 8192 (by decide)
   have hX:dicRows F ((nE:Int)+1) ((l0,row0)::rest)=if numErr (fieldAt row0 0).data.toList 8192≠0 then .error (l0,13) else match dgo F (numVal (fieldAt row0 0).data.toList 8192) 0 rest with
    | .error p=>.error p
    | .ok xs=>if (xs.length:Int) < numVal (fieldAt row0 0).data.toList 8192 then .error ((nE:Int)+1,116) else .ok xs:=by
    rw [dicRows,if_neg (by omega)]
    rfl
   unfold NumRet at HNm
   rw [h1] at c1 hcap0
   have hne:=numErr_13 (fieldAt row0 0).data.toList 8192
   obtain⟨cnt,hcnt⟩:∃c,numVal (fieldAt row0 0).data.toList 8192=c:=⟨_,rfl⟩
   obtain⟨ne,hnee⟩:∃c,numErr (fieldAt row0 0).data.toList 8192=c:=⟨_,rfl⟩
   rw [hcnt,hnee] at HNm hX
   rw [hcnt] at hcb
   rw [hnee] at hne
   generalize fieldAt row0 0=f0 at *
   have HX0:=hid hX
   clear hcells0 hc1 hx0 hb0 hfs hX hcnt hnee h1
   rcases hne with rfl | rfl
   ·have HX1:=hid (HX0.out.trans (if_neg (by simp)))
    have HEn:Hid (∀(L:List Nat) W fv row,Below w.heap.size w W→(∀x∈L,w.heap.size≤x∧x < W.heap.size)→Rd W 1 fv row.length (strV row)→(∀j,(fieldAt row j).size≤65536)→row.length≤9223372036854775807→Calls Tryz.prog 104 #[.pointer (some ⟨rf,0,none⟩),fv] W (EntQ L (entR F row) W)):=hid (fun L W fv row hW hL hr hs hn=>so_qentry L w rf F fv row W HF.out hW hL HOk.out hr hs hn)
    have hs2:=HB2.out.size
    go_wp2_with (go_at_call 103;refine HNm.out.mono ?_;rintro e w3 ⟨rfl,rfl⟩)
    go_loopw [11,12,13,14] (fun v x _ _ wr=>∃(k j:Nat) (xs:List EnM),Hid (j=k+1)∧j≤M∧x=.int .i64 j∧(k:Int)≤cnt∧Hid (wr.ownsRow w2.heap.size 54 2 v xs.length (entCells xs))∧Hid (∀x∈xs,IO wr (blkL v) x.2.1 x.2.2)∧Hid (DLeft F cnt rest k (entAbs xs))∧Hid (Below w2.heap.size w2 wr)) (fun _ x _ _ _=>M - (intOf x).toNat)
    case atStart=>exact⟨0,1,[],hid rfl,by omega,rfl,hcb.1,hid (World.ownsRow_nil _ _ _ _),hid (fun x hx=>(List.not_mem_nil hx).elim),hid (DLeft.start _ _ _),hid (Below.refl _ _)⟩
    case round =>
    obtain⟨k,j,xs,HJ,hj,rfl,hkc,HO,HI,HD,HBk⟩:=hrel
    by_cases hlt:j < M
    ·have hkr:k < rest.length:=by have:=HJ.out;have:=HMr.out;omega
     obtain⟨g',o',fv,hA,c0',c1',hrd⟩:=drows_at HRm2.out (a:=j) (by have:=HMr.out;simp;omega)
     cases hA
     have hje:j=k+1:=HJ.out
     have hrj:((l0,row0)::rest)[j]'(by have:=HMr.out;simp;omega)=rest[k]:=by subst hje;simp
     rw [hrj] at c0' hrd
     have hb:=HBd.out rest[k] (List.mem_cons_of_mem _ (List.getElem_mem hkr))
     have e0:=(HBk.out.cell (block_lt_of_cell? _ _ c0')).trans c0'
     have e1':=(HBk.out.cell (block_lt_of_cell? _ _ c1')).trans c1'
     have hrd2:=hrd.keep HBk.out
     have hjM:(j:Int) < (M:Int):=by omega
     have hmany:=fun h=>HD.out.many hkr h
     have hbad:=fun h {c:Int} he=>HD.out.bad hkr h (c:=c) he
     have hmore:=fun h {x:En} he=>HD.out.more hkr h (x:=x) he
     have hfs:∀i,(fieldAt rest[k].2 i).size≤65536:=fun i=>by
      unfold fieldAt
      rw [List.getD_eq_getElem?_getD]
      rcases Nat.lt_or_ge i rest[k].2.length with hl | hl
      ·rw [List.getElem?_eq_getElem hl];exact hb.2.2.1 _ (List.getElem_mem hl)
      rw [List.getElem?_eq_none hl];exact Nat.zero_le _
     have hfl:=hb.2.1
     obtain⟨r,hr⟩:∃r,rest[k]=r:=⟨_,rfl⟩
     obtain⟨ln,row⟩:=r
     rw [hr] at e0 hrd2 hfs hfl
     simp only [hr] at hmany hbad hmore
     dsimp only at e0 e1' hrd2 hfs hfl
     have HMany:=hid hmany
     have HBad:=hid hbad
     have HMore:=hid hmore
     have HRd2:=hid hrd2
     have HFs:=hid hfs
     obtain⟨-,Af,cpf,rfl,-,-⟩:=hrd2
     clear c0' c1' hrd hrj hb hr hmany hbad hmore hfs hje
     by_cases hkeq:(k:Int)=cnt
     ·have hgt:(cnt:Int) < (j:Int):=by have:=HJ.out;omega
      have HX:=hid (HMany.out hkeq)
      clear hkeq
      go_wp2_with fail
      go_quiet (fail)
      go_wp2_with fail
      go_ret3
      exact⟨below_drewN (HB2.out.trans (HBk.out.mono hs2)) _,by rw [HX1.out,HX.out];rfl⟩
     have hgt:¬(cnt:Int) < (j:Int):=by have:=HJ.out;omega
     have hszr:=HBk.out.size
     have hEq:=HEn.out (blkL u11) wr (.slice Af row.length cpf) row (HB2.out.trans (HBk.out.mono hs2)) (fun x hx=>by rw [mem_blkL] at hx;have h1:=own_ge HO.out hx;exact⟨Nat.le_trans hs2 h1.1,h1.2.1⟩) HRd2.out HFs.out (by omega)
     cases hen:entR F row with
     | error c =>
      have hc:=entR_ne hen
      have hc1:(c != 0)=true:=by rw [bne_iff_ne];exact hc
      have HX:=hid (HBad.out hkeq hen)
      rw [hen] at hEq
      unfold EntQ at hEq
      dsimp only at hEq
      have HEq:=hid hEq
      clear hEq hen hc hkeq
      have hgr:g < wr.heap.size:=block_lt_of_cell? _ _ e0
      go_wp2_with (go_at_call 104;refine HEq.out.mono ?_;rintro e w5 ⟨hb5,rfl⟩;have HB5:=hid (HBk.out.trans (hb5.mono hszr));have e5:=(hb5.cell (p:=⟨g,o+j*2,none⟩) hgr).trans e0;have hg5:g < w5.heap.size:=Nat.lt_of_lt_of_le hgr hb5.size;clear hb5)
      go_quiet (fail)
      go_wp2_with fail
      go_ret3
      have hB6:=HB5.out.alloc HB5.out.size (.cells #[.string ⟨#[]⟩,.slice none 0 0] 54)
      exact⟨below_drewN (HB2.out.trans (hB6.mono hs2)) _,by rw [HX1.out,HX.out];rfl⟩
     | ok x =>
      have HX:=hid (HMore.out hkeq hen)
      rw [hen] at hEq
      unfold EntQ at hEq
      dsimp only at hEq
      obtain⟨s,zs⟩:=x
      dsimp only at hEq
      have HEq:=hid hEq
      have hkc1:(k:Int)+1≤cnt:=by omega
      clear hEq hen hkeq
      go_upto_region 21 with (go_at_call 104;refine HEq.out.mono ?_;rintro e w5 ⟨hb5,v5,rfl,hio⟩;obtain⟨p5,c5,rfl⟩:∃p c,v5=.slice p zs.length c:=(by obtain⟨p,c,hv,-⟩:=hio;exact⟨p,c,hv⟩);have hba:=hb5.alloc hb5.size (.cells #[.string s,.slice p5 zs.length c5] 54);have HBa:=hid (HBk.out.trans (hba.mono hszr));have HOa:=hid (own_below HO.out hba);have HIa:Hid (∀x∈xs,IO (w5.alloc (.cells #[.string s,.slice p5 zs.length c5] 54)) (blkL u11) x.2.1 x.2.2):=hid (fun x hx=>(HI.out x hx).later hba);have HIn:=hid (hio.later ((Below.refl _ _).alloc (Nat.le_refl _) (.cells #[.string s,.slice p5 zs.length c5] 54)));clear hb5 hba hio)
      have z0:=cell_of_heap (heap_alloc_new w5 (.cells #[.string s,.slice p5 zs.length c5] 54)) 0
      have z1:=cell_of_heap (heap_alloc_new w5 (.cells #[.string s,.slice p5 zs.length c5] 54)) 1
      simp only [List.getElem?_toArray,List.getElem?_cons_zero,List.getElem?_cons_succ] at z0 z1
      obtain⟨wE,hwE⟩:∃W,w5.alloc (.cells #[.string s,.slice p5 zs.length c5] 54)=W:=⟨_,rfl⟩
      rw [hwE] at HBa HOa HIa HIn z0 z1 ⊢
      have hsa:=HBa.out.size
      clear hwE
      go_wp2_with (at_builtin;refine wpList_pushL rfl _ _ 50 rfl w2.heap.size 54 i0 (.agg #[.string ByteArray.empty,.slice none 0 0]) 2 40 Tryz.underlying50 hi hz0 hz1 hz2 rfl (by decide) _ xs.length _ rfl HOa.out #[.string s,.slice p5 zs.length c5] rfl ?one rfl ?c3 ?c4 hsa ?_)
      case one=>exact⟨rfl,rfl⟩
      case c3=>have:=HD.out.1;rw [entAbs_len] at this;unfold maxLen;omega
      case c4=>have:=HD.out.1;rw [entAbs_len] at this;omega
      intro gg cap w7 hown hg hloc
      have hl7:(Value.slice (some ⟨gg,0,none⟩) (xs.length+1) cap).ownBlock=u11.ownBlock∨∃g,(Value.slice (some ⟨gg,0,none⟩) (xs.length+1) cap).ownBlock=some g∧wE.heap.size≤g:=by
       rcases hloc with h | ⟨g,h1,h2,-⟩
       ·exact .inl h
       exact .inr ⟨g,h1,h2⟩
      have HO7:Hid (w7.ownsRow w2.heap.size 54 2 (.slice (some ⟨gg,0,none⟩) (xs.length+1) cap) (xs++[(s,Value.slice p5 zs.length c5,zs)]).length (entCells (xs++[(s,Value.slice p5 zs.length c5,zs)]))):=hid (by
       rw [List.length_append,←entCells_snoc];exact hown)
      have HI7:Hid (∀y∈xs++[(s,Value.slice p5 zs.length c5,zs)],IO w7 (blkL (.slice (some ⟨gg,0,none⟩) (xs.length+1) cap)) y.2.1 y.2.2):=hid (fun y hy=>by
       rcases List.mem_append.1 hy with hy | hy
       ·exact (HIa.out y hy).grow hg hl7
       simp only [List.mem_singleton] at hy;subst hy;exact HIn.out.grow hg hl7)
      have HB7:=hid (below_push HBa.out HOa.out hg (Nat.le_refl _) hsa)
      clear hown hg hloc hl7
      go_wp2
      go_roundw
      case rel=>exact⟨k+1,j+1,_,hid (by rw [HJ.out]),by omega,by go_num,by omega,HO7,HI7,hid (by rw [entAbs_snoc];exact HX.out),HB7⟩
      case measure=>simp [intOf];omega
    obtain rfl:j=M:=by omega
    have hkr:k=rest.length:=by have:=HJ.out;have:=HMr.out;omega
    subst hkr
    have hdone:=HD.out.done
    have hB:=HB2.out.trans (HBk.out.mono hs2)
    obtain⟨Av,cv,rfl⟩:=own_slice HO.out
    by_cases hlc:(xs.length:Int) < cnt
    ·have HX:Hid (dicRows F ((nE:Int)+1) ((l0,row0)::rest)=.error ((nE:Int)+1,116)):=hid (by rw [HX1.out,hdone];dsimp only;rw [if_pos (by rw [entAbs_len];exact hlc)])
     have HBf:=hid hB
     clear hdone hB
     go_wp2_with fail
     go_ret3
     exact⟨HBf.out,by rw [HX.out];rfl⟩
    have HX:Hid (dicRows F ((nE:Int)+1) ((l0,row0)::rest)=.ok (entAbs xs)):=hid (by rw [HX1.out,hdone];dsimp only;rw [if_neg (by rw [entAbs_len];exact hlc)])
    have HBf:=hid hB
    clear hdone hB
    go_wp2_with fail
    go_ret3
    refine⟨HBf.out,?_⟩
    rw [HX.out]
    exact⟨_,rfl,xs,rfl,Rd.of_own HO.out,fun x hx=>(HI.out x hx).is⟩
   have HX1:=hid (HX0.out.trans (if_pos (by simp)))
   go_wp2_with (go_at_call 103;refine HNm.out.mono ?_;rintro e w3 ⟨rfl,rfl⟩)
   go_quiet (fail)
   go_wp2_with fail
   go_ret3
   exact⟨below_drewN HB2.out _,by rw [HX1.out];rfl⟩
  have hne1:((row0.length:Int) != 1)=true:=by rw [bne_iff_ne];omega
  have hX:dicRows F ((nE:Int)+1) ((l0,row0)::rest)=.error (l0,111):=by rw [dicRows,if_pos h1]
  have HX1:=hid hX
  clear hX hcells0
  go_wp2_with fail
  go_quiet (fail)
  go_wp2_with fail
  go_ret3
  exact⟨below_drewN HB2.out _,by rw [HX1.out];rfl⟩
theorem so_CloneEnt (v:Value) (n:Nat) (xs:List Value) (w:World) (h:Rd w 2 v n xs) (h1:∀u∈xs,u.oneCell'=true) (hn:n≤65536) :
  Calls Tryz.prog 66 #[v] w fun e w'=>∃v',e=.returned v'∧Own w w' 35 2 v' n xs:=by
 obtain⟨hl,p,c,rfl,hcap,hs⟩:=h
 obtain⟨i0,hi,hz0,hz1,hz2⟩:=info_parts ent_info
 have qn:∀(w:World) (a:Option Addr) (n c n' c':Nat),(binOp .eql 85 (.slice a n c) (.slice none n' c')).run Tryz.prog w=.ok (.bool a.isNone) w:=fun w a n c n' c'=>run_eql_slice_nil w _ _ a n c n' c' Tryz.underlying85
 have hS:=hid hs
 have HL:=hid hl
 clear hs hl
 cases p with
 | none =>
  have h0:n=0:=hS.out.resolve_right (by rintro⟨b,off,hp,_⟩;cases hp)
  clear hS
  subst h0
  have hx:Hid (xs=[]):=hid (List.eq_nil_of_length_eq_zero (by rw [HL.out,Nat.zero_mul]))
  go_enter Tryz.func66,Tryz.ntmps66
  go_wp2
  go_ret
  exact⟨_,rfl,by rw [hx.out];exact Own.nil_ _ _ _⟩
 | some ad =>
  have hr:=run_append_src (P:=Tryz.prog) (w.alloc (.cells #[] 35)) w.heap.size 85 85 35 i0 (.agg #[.string ByteArray.empty,.slice none 0 0]) 2 40 Tryz.underlying85 hi hz0 hz1 hz2 rfl (by decide) _ 0 [] (World.ownsRow_made w #[] 0 (Nat.le_refl _) (Nat.zero_le _) rfl)
   (some ad) n c xs HL.out (news_of hS.out HL.out ((Below.refl _ w).alloc (Nat.le_refl _) _)) h1 (by unfold maxLen;omega) (by omega) (by simp)
  obtain⟨v',w1,hrun,hown,hg,-⟩:=hr
  rw [Nat.zero_add,List.nil_append] at hown
  have HR:=hid hrun
  have HO:=hid hown
  have HG:=hid hg
  clear hrun hown hg hS
  go_enter Tryz.func66,Tryz.ntmps66
  go_wp2_with (at_builtin;refine wpList_append_run _ rfl _ _ _ _ rfl _ _ rfl rfl _ _ HR.out ?_)
  go_ret
  refine⟨v',rfl,⟨?_,HO.out⟩⟩
  exact ((Below.refl _ w).alloc (Nat.le_refl _) _).grown HG.out (by simp) (by intro g hg;simp [Value.ownBlock] at hg;omega)
def ClInv (cls:List Cl) (rls:List Rl):Prop :=
 (∀c∈cls,0≤c.first∧0≤c.count∧c.first+c.count≤rls.length∧∀(n:Nat) (h:n < rls.length),c.first≤n→(n:Int) < c.first+c.count→rls[n].flag=c.flag∧rls[n].kind=c.kind) ∧
 ∀(n:Nat) (h:n < rls.length),∃c,cls.find? (fun c=>c.flag==rls[n].flag)=some c∧c.first≤n∧(n:Int) < c.first+c.count
theorem ClInv.nil:ClInv [] []:=⟨fun c hc=>(List.not_mem_nil hc).elim,fun n h=>(Nat.not_lt_zero n h).elim⟩
theorem ClInv.push {cls:List Cl} {rls new:List Rl} {c:Cl} (h:ClInv cls rls) (hf:cls.find? (fun d=>d.flag==c.flag)=none) (h1:c.first=rls.length) (h2:c.count=new.length) (hn:∀r∈new,r.flag=c.flag∧r.kind=c.kind):ClInv (cls++[c]) (rls++new):=by
 have key:∀(n:Nat) (hn':n < (rls++new).length),rls.length≤n→(rls++new)[n].flag=c.flag∧(rls++new)[n].kind=c.kind:=fun n hn' hle=>by
  rw [List.getElem_append_right hle]
  exact hn _ (List.getElem_mem _)
 constructor
 ·intro d hd
  rcases List.mem_append.1 hd with hd | hd
  ·obtain⟨a,b,e,f⟩:=h.1 d hd
   refine⟨a,b,by rw [List.length_append];push_cast;omega,fun n hn' hl hr=>?_⟩
   have hlt:n < rls.length:=by omega
   rw [List.getElem_append_left hlt]
   exact f n hlt hl hr
  simp at hd
  subst hd
  refine⟨by rw [h1];omega,by rw [h2];omega,by rw [h1,h2,List.length_append];push_cast;omega,fun n hn' hl hr=>key n hn' (by rw [h1] at hl;omega)⟩
 intro n hn'
 by_cases hlt:n < rls.length
 ·obtain⟨d,hd,a,b⟩:=h.2 n hlt
  refine⟨d,?_,a,b⟩
  rw [List.getElem_append_left hlt,List.find?_append,hd]
  rfl
 have hk:=key n hn' (by omega)
 refine⟨c,?_,by rw [h1];omega,by rw [h1,h2];rw [List.length_append] at hn';omega⟩
 rw [hk.1,List.find?_append,hf]
 simp
def NzF (als:List (List Int)) (rls:List Rl):Prop:=(∀a∈als,(0:Int)∉a)∧∀r∈rls,(0:Int)∉r.next
theorem readF_nz (kind:Int) (l:List UInt8):(0:Int)∉(readF kind l).1:=by
 unfold readF
 split
 ·simp
 split
 ·simp
 split
 ·simp
 split
 ·simp
 rename_i h _
 intro hm
 rw [mem_canon] at hm
 exact h (by simpa using hm)
theorem flagsR_nz (F:Fl) (s:ByteArray) (h:∀a∈F.als,(0:Int)∉a):(0:Int)∉(flagsR F s).1:=by
 unfold flagsR
 split
 ·exact readF_nz _ _
 split
 ·simp
 rw [List.getD_eq_getElem?_getD]
 rcases Nat.lt_or_ge (numVal s.data.toList F.als.length - 1).toNat F.als.length with hl | hl
 ·rw [List.getElem?_eq_getElem hl];exact h _ (List.getElem_mem hl)
 rw [List.getElem?_eq_none hl];simp
theorem ruleR_of {F:Fl} {c:Cl} {line:Int} {row:List ByteArray} {r:Rl} (h:ruleR F c line row=.ok r) (ha:∀a∈F.als,(0:Int)∉a):(r.flag=c.flag∧r.kind=c.kind)∧(0:Int)∉r.next:=by
 unfold ruleR at h
 split at h
 ·cases h
 split at h
 ·cases h
 split at h
 split at h
 ·cases h
 split at h
 ·cases h
 split at h
 ·cases h
 rename_i hn
 split at h
 ·cases h
 cases h
 refine⟨⟨rfl,rfl⟩,?_⟩
 show (0:Int)∉_
 unfold nextR at hn
 split at hn
 ·split at hn
  ·cases hn
  split at hn
  ·cases hn
  cases hn;exact flagsR_nz F _ ha
 cases hn;simp
theorem group_rules {end_:Int} {ok:List ByteArray→Bool} {c:Cl}:∀(n:Nat) (S S':Sx),(∀a∈S.fl.als,(0:Int)∉a)→groupR end_ ok (ruleIn c) n S=.ok S' →
  ∃new,S'.fl={ S.fl with rls:=S.fl.rls++new }∧new.length=n∧∀r∈new,(r.flag=c.flag∧r.kind=c.kind)∧(0:Int)∉r.next
 | 0,S,S',_,h=>by rw [groupR] at h;cases h;exact⟨[],by simp,rfl,fun r hr=>by cases hr⟩
 | n+1,S,S',ha,h=>by
   rw [groupR] at h
   split at h
   ·cases h
   ·split at h
    ·split at h
     ·cases h
     ·rename_i hF
      unfold ruleIn at hF
      split at hF
      ·cases hF
      ·rename_i x hx
       cases hF
       obtain⟨new,h1,h2,h3⟩:=group_rules n _ S' (by exact ha) h
       refine⟨x::new,by rw [h1];simp,by rw [List.length_cons,h2],fun r hr=>?_⟩
       rcases List.mem_cons.1 hr with rfl | hr
       ·exact ruleR_of hx ha
       ·exact h3 r hr
    ·cases h
def TbInv (F:Fl):Prop:=ClInv F.cls F.rls∧NzF F.als F.rls
theorem group_tb {end_:Int} {ok:List ByteArray→Bool} {inn:Fl→Int→List ByteArray→Except Int Fl} (hi:∀F l r F',TbInv F→inn F l r=.ok F'→TbInv F'):∀(n:Nat) (S S':Sx),TbInv S.fl→groupR end_ ok inn n S=.ok S'→TbInv S'.fl
 | 0,S,S',h0,h=>by rw [groupR] at h;cases h;exact h0
 | n+1,S,S',h0,h=>by
   rw [groupR] at h
   split at h
   ·cases h
   ·split at h
    ·split at h
     ·cases h
     ·rename_i hF
      exact group_tb hi n _ S' (hi _ _ _ _ h0 hF) h
    ·cases h
theorem rep_tb (F:Fl) (l:Int) (r:List ByteArray) (F':Fl) (h0:TbInv F) (h:repR_ F l r=.ok F'):TbInv F':=by
 unfold repR_ at h
 split at h
 ·cases h
 split at h
 ·cases h
 split at h
 ·cases h
 cases h;exact h0
theorem alias_tb (F:Fl) (l:Int) (r:List ByteArray) (F':Fl) (h0:TbInv F) (h:aliasR F l r=.ok F'):TbInv F':=by
 unfold aliasR at h
 split at h
 ·cases h
 split at h
 ·cases h
 cases h
 refine⟨h0.1,fun a ha=>?_,h0.2.2⟩
 rcases List.mem_append.1 ha with ha | ha
 ·exact h0.2.1 a ha
 simp at ha;subst ha;exact readF_nz _ _
theorem setSp_same (F:Fl) (i:Nat) (f:Int):(setSp F i f).cls=F.cls∧(setSp F i f).rls=F.rls∧(setSp F i f).als=F.als:=by unfold setSp;split<;>exact⟨rfl,rfl,rfl⟩
theorem head_tb {end_:Int} {S S':Sx} {row:List ByteArray} {k:Nat} (h0:TbInv S.fl) (h:headR end_ S row k=.ok S'):TbInv S'.fl:=by
 unfold headR at h
 split at h
 ·obtain⟨F,hF,rfl⟩:=onFl_ok h
  unfold kindR at hF
  split at hF
  ·cases hF
  split at hF
  ·cases hF
  cases hF;exact h0
 split at h
 ·obtain⟨F,hF,rfl⟩:=onFl_ok h
  unfold setR at hF
  split at hF
  ·cases hF
  cases hF;exact h0
 split at h
 ·obtain⟨F,hF,rfl⟩:=onFl_ok h
  unfold tryR at hF
  split at hF
  ·cases hF
  cases hF;exact h0
 split at h
 ·obtain⟨F,hF,rfl⟩:=onFl_ok h
  unfold specialR at hF
  split at hF
  ·cases hF
  cases hF
  show TbInv (setSp _ _ _)
  unfold TbInv
  obtain⟨e1,e2,e3⟩:=setSp_same S.fl (k - 3) ‹_›
  rw [e1,e2,e3]
  exact h0
 split at h
 ·obtain⟨F,hF,rfl⟩:=onFl_ok h
  unfold leastR at hF
  split at hF
  ·cases hF
  cases hF;exact h0
 split at h
 ·unfold repsG at h
  split at h
  ·cases h
  exact group_tb rep_tb _ _ _ h0 h
 split at h
 ·unfold aliasG at h
  split at h
  ·cases h
  split at h
  ·cases h
  exact group_tb alias_tb _ _ _ h0 h
 unfold classR at h
 split at h
 ·cases h
 rename_i f hf
 obtain⟨-,-,-,hd⟩:=freshR_ok hf
 split at h
 ·cases h
 split at h
 ·cases h
 split at h
 ·cases h
 have hb:=(numVal_bd (fieldAt row 3).data.toList 1024 (by decide)).1
 obtain⟨new,h1,h2,h3⟩:=group_rules _ _ _ (by exact h0.2.1) h
 rw [h1]
 refine⟨h0.1.push ?_ rfl ?_ (fun r hr=>(h3 r hr).1),h0.2.1,fun r hr=>?_⟩
 ·exact findC_none hd
 ·show numVal (fieldAt row 3).data.toList 1024=_
  rw [h2];omega
 rcases List.mem_append.1 hr with hr | hr
 ·exact h0.2.2 r hr
 exact (h3 r hr).2
theorem read_tb {end_:Int}:∀(n:Nat) (S S':Sx),TbInv S.fl→readGo end_ n S=.ok S'→TbInv S'.fl
 | 0,S,S',h0,h=>by rw [readGo] at h;cases h;exact h0
 | n+1,S,S',h0,h=>by
   rw [readGo] at h
   split at h
   ·cases h;exact h0
   ·split at h
    ·cases h
    ·rename_i hs
     refine read_tb n _ S' ?_ h
     unfold stepR at hs
     split at hs
     ·cases hs
     split at hs
     ·cases hs
     split at hs
     ·cases hs
     split at hs
     ·cases hs
     ·rename_i S3 hh
      cases hs
      have h2:TbInv S3.fl:=head_tb (by exact h0) hh
      exact h2
theorem affR_tb {t:List UInt8} {F:Fl} (h:affR t=.ok F):TbInv F:=by
 unfold affR at h
 split at h
 ·cases h
 split at h
 ·cases h
 rename_i S hr
 split at h
 ·cases h
 cases h
 exact read_tb _ _ _ (show TbInv fl0 from⟨ClInv.nil,fun a ha=>(List.not_mem_nil ha).elim,fun r hr=>(List.not_mem_nil hr).elim⟩) (by assumption)
def clRange (F:Fl) (kind f:Int):List Int:=match findC F f with
 | some c=>if c.kind=kind then (List.range c.count.toNat).map (fun i:Nat=>c.first+(i:Int)) else []
 | none=>[]
def namedB (F:Fl) (fs:List Int) (kind:Int):List Int:=fs.flatMap (clRange F kind)
def goesN (F:Fl) (fs:List Int) (kind:Int) (n:Nat):Bool:=match F.rls[n]? with
 | some r=>decide (r.kind=kind)&&fs.contains r.flag
 | none=>false
def namedR (F:Fl) (fs:List Int) (kind:Int):List Int:=((List.range F.rls.length).filter (goesN F fs kind)).map (fun n:Nat=>(n:Int))
theorem mem_clRange {F:Fl} (h:ClInv F.cls F.rls) {kind f x:Int}:x∈clRange F kind f↔∃(n:Nat) (hn:n < F.rls.length),x=n∧F.rls[n].flag=f∧F.rls[n].kind=kind:=by
 unfold clRange
 constructor
 ·intro hx
  split at hx
  ·rename_i c hc
   have hm:=List.mem_of_find?_eq_some hc
   have hcf:c.flag=f:=by simpa using List.find?_some hc
   obtain⟨a,b,e,g⟩:=h.1 c hm
   split at hx
   ·rename_i hk
    simp only [List.mem_map,List.mem_range] at hx
    obtain⟨i,hi,rfl⟩:=hx
    have hlt:(c.first+(i:Int)).toNat < F.rls.length:=by omega
    have:=g (c.first+(i:Int)).toNat hlt (by omega) (by omega)
    exact⟨_,hlt,by omega,by rw [this.1,hcf],by rw [this.2,hk]⟩
   cases hx
  cases hx
 rintro⟨n,hn,rfl,rfl,rfl⟩
 obtain⟨c,hc,a,b⟩:=h.2 n hn
 have hfc:findC F F.rls[n].flag=some c:=hc
 obtain⟨a',b',e,g⟩:=h.1 c (List.mem_of_find?_eq_some hc)
 rw [hfc]
 dsimp only
 rw [if_pos (g n hn a b).2.symm]
 simp only [List.mem_map,List.mem_range]
 exact⟨(n - c.first).toNat,by omega,by omega⟩
theorem mem_namedB {F:Fl} (h:ClInv F.cls F.rls) {fs:List Int} {kind x:Int}:x∈namedB F fs kind↔∃(n:Nat) (hn:n < F.rls.length),x=n∧F.rls[n].flag∈fs∧F.rls[n].kind=kind:=by
 unfold namedB
 rw [List.mem_flatMap]
 constructor
 ·rintro⟨f,hf,hx⟩
  obtain⟨n,hn,rfl,rfl,hk⟩:=(mem_clRange h).1 hx
  exact⟨n,hn,rfl,hf,hk⟩
 rintro⟨n,hn,rfl,hf,hk⟩
 exact⟨_,hf,(mem_clRange h).2 ⟨n,hn,rfl,rfl,hk⟩⟩
theorem mem_namedR {F:Fl} {fs:List Int} {kind x:Int}:x∈namedR F fs kind↔∃(n:Nat) (hn:n < F.rls.length),x=n∧F.rls[n].flag∈fs∧F.rls[n].kind=kind:=by
 unfold namedR goesN
 simp only [List.mem_map,List.mem_filter,List.mem_range]
 constructor
 ·rintro⟨n,⟨hn,hg⟩,rfl⟩
  rw [List.getElem?_eq_getElem hn] at hg
  simp at hg
  exact⟨n,hn,rfl,hg.2,hg.1⟩
 rintro⟨n,hn,rfl,hf,hk⟩
 refine⟨n,⟨hn,?_⟩,rfl⟩
 rw [List.getElem?_eq_getElem hn]
 simp [hf,hk]
theorem namedR_sorted (F:Fl) (fs:List Int) (kind:Int):(namedR F fs kind).Pairwise (· < ·):=by
 unfold namedR
 rw [List.pairwise_map]
 refine List.Pairwise.imp (fun {a b} h=>?_) ((List.pairwise_lt_range).filter _)
 omega
theorem clRange_nodup {F:Fl} (kind f:Int):(clRange F kind f).Nodup:=by
 unfold clRange
 split
 ·split
  ·rw [List.nodup_iff_pairwise_ne,List.pairwise_map]
   refine List.Pairwise.imp (fun {a b} h=>?_) List.nodup_range
   omega
  exact List.nodup_nil
 exact List.nodup_nil
theorem namedB_nodup {F:Fl} (h:ClInv F.cls F.rls) (kind:Int):∀(fs:List Int),fs.Nodup→(namedB F fs kind).Nodup
 | [],_=>List.nodup_nil
 | f::fs,hf=>by
   have e:namedB F (f::fs) kind=clRange F kind f++namedB F fs kind:=by simp [namedB]
   rw [e,List.nodup_append]
   have hf':=List.nodup_cons.1 hf
   refine⟨clRange_nodup _ _,namedB_nodup h kind fs hf'.2,fun a ha b hb e=>?_⟩
   subst e
   obtain⟨n,hn,rfl,h1,-⟩:=(mem_clRange h).1 ha
   obtain⟨m,hm,e,h2,-⟩:=(mem_namedB h).1 hb
   obtain rfl:n=m:=by omega
   rw [h1] at h2
   exact hf'.1 h2
theorem named_sort {F:Fl} (h:ClInv F.cls F.rls) {fs:List Int} (hf:fs.Nodup) (kind:Int):(namedB F fs kind).mergeSort (fun x y=>decide (x≤y))=namedR F fs kind:=by
 have hp:(namedB F fs kind).Perm (namedR F fs kind):=by
  rw [List.perm_ext_iff_of_nodup (namedB_nodup h kind fs hf) ((namedR_sorted F fs kind).imp (fun {a b} h=>by omega))]
  intro x
  rw [mem_namedB h,mem_namedR]
 refine List.Perm.eq_of_pairwise (le:=fun x y:Int=>decide (x≤y)=true) (fun a b _ _ h1 h2=>by simp at h1 h2;omega) ?_ ((namedR_sorted F fs kind).imp (fun {a b} h=>by simp;omega)) ((List.mergeSort_perm _ _).trans hp)
 exact List.pairwise_mergeSort (le:=fun x y:Int=>decide (x≤y)) (fun a b c h1 h2=>by simp at h1 h2 ⊢;omega) (fun a b=>by simp;omega) _
theorem namedR_len (F:Fl) (fs:List Int) (kind:Int):(namedR F fs kind).length≤F.rls.length:=by
 unfold namedR
 rw [List.length_map]
 exact Nat.le_trans (List.length_filter_le _ _) (by rw [List.length_range];exact Nat.le_refl _)
theorem namedB_len {F:Fl} (h:ClInv F.cls F.rls) {fs:List Int} (hf:fs.Nodup) (kind:Int):(namedB F fs kind).length≤F.rls.length:=by
 have:=congrArg List.length (named_sort h hf kind)
 rw [List.length_mergeSort] at this
 rw [this]
 exact namedR_len F fs kind
theorem nodup_canon {a:List Int} (h:canon a=a):a.Nodup:=by
 have:=canon_sorted a
 rw [h] at this
 exact this.imp (fun {a b} h=>by omega)
def SetOk (zs:List Int):Prop:=canon zs=zs∧(∀z∈zs,0≤z∧z≤65535)∧(0:Int)∉zs
theorem SetOk.nil:SetOk []:=⟨canon_nil,fun z h=>(List.not_mem_nil h).elim,by simp⟩
theorem SetOk.len {zs:List Int} (h:SetOk zs):zs.length≤65536:=canon_len h.1 h.2.1
theorem SetOk.nodup {zs:List Int} (h:SetOk zs):zs.Nodup:=nodup_canon h.1
theorem flagsR_set {F:Fl} (hok:FlOk F) (ht:TbInv F) (s:ByteArray):SetOk (flagsR F s).1 :=
 ⟨flagsR_canon F s (fun a ha=>(hok.sets a ha).1),flagsR_bd F s (fun a ha=>(hok.sets a ha).2),flagsR_nz F s ht.2.1⟩
theorem next_set {F:Fl} (hok:FlOk F) (ht:TbInv F):∀r∈F.rls,SetOk r.next:=fun r hr=>⟨(hok.nexts r hr).1,(hok.nexts r hr).2,ht.2.2 r hr⟩
theorem entR_set {F:Fl} (hok:FlOk F) (ht:TbInv F) {row:List ByteArray} {x:En} (h:entR F row=.ok x):SetOk x.2:=by
 unfold entR at h
 split at h
 ·cases h
 split at h
 split at h
 ·cases h
 unfold enWord at h
 split at h
 ·cases h
 split at h
 ·cases h
 split at h
 ·cases h;exact SetOk.nil
 unfold enFlags at h
 split at h
 ·cases h
 split at h
 ·cases h;exact flagsR_set hok ht _
 cases h
theorem dgo_set {F:Fl} (hok:FlOk F) (ht:TbInv F) {count:Int}:∀(all:List Row) (i:Nat) (xs:List En),dgo F count i all=.ok xs→∀x∈xs,SetOk x.2∧x.1.size≤64
 | [],i,xs,h=>by rw [dgo_nil] at h;cases h;intro x hx;cases hx
 | (l,row)::rest,i,xs,h=>by
   rw [dgo] at h
   split at h
   ·cases h
   ·split at h
    ·cases h
    ·rename_i y hy
     split at h
     ·cases h
     ·rename_i ys hys
      cases h
      intro x hx
      rcases List.mem_cons.1 hx with rfl | hx
      ·exact⟨entR_set hok ht hy,entR_size hy⟩
      ·exact dgo_set hok ht rest (i+1) ys hys x hx
structure EsOk (es:List En):Prop where
 len:es.length≤65536
 each:∀x∈es,SetOk x.2∧x.1.size≤64
theorem dicR_es {F:Fl} (hok:FlOk F) (ht:TbInv F) {t:List UInt8} {es:List En} (h:dicR F t=.ok es):EsOk es:=by
 unfold dicR at h
 split at h
 ·cases h
 have hr:=rows_le t
 generalize rowsOf (eachOf t)=rows at h hr
 unfold dicRows at h
 split at h
 ·cases h
 split at h
 ·cases h
 split at h
 ·cases h
 split at h
 ·cases h
 rename_i xs hx
 split at h
 ·cases h
 cases h
 refine⟨?_,dgo_set hok ht _ _ _ hx⟩
 rw [dgo_len _ _ _ hx]
 simp at hr
 omega
theorem dicR_err {F:Fl} {t:List UInt8} {l c:Int} (h:dicR F t=.error (l,c)):c≠0:=by
 unfold dicR at h
 split at h
 ·cases h;decide
 generalize rowsOf (eachOf t)=rows at h
 unfold dicRows at h
 split at h
 ·cases h;decide
 split at h
 ·cases h;decide
 split at h
 ·cases h;decide
 split at h
 ·rename_i p hp
  cases h
  have:∀(all:List Row) (i:Nat) (l c:Int) (count:Int),dgo F count i all=.error (l,c)→c≠0:=by
   intro all
   induction all with
   | nil=>intro i l c count h;rw [dgo_nil] at h;cases h
   | cons x rest ih =>
    intro i l c count h
    obtain⟨l0,row⟩:=x
    rw [dgo] at h
    split at h
    ·cases h;decide
    split at h
    ·rename_i he;cases h;exact entR_ne he
    split at h
    ·rename_i hp;cases h;exact ih _ _ _ _ hp
    cases h
  exact this _ _ _ _ _ hp
 split at h
 ·cases h;decide
 cases h
def tabR (a d:List UInt8):Except (Int×Int×Int) (Fl×List En):=match affR a with
 | .error p=>.error (1,p.1,p.2)
 | .ok F=>match dicR F d with
   | .error p=>.error (2,p.1,p.2)
   | .ok es=>.ok (F,es)
theorem tabR_aff {a d:List UInt8} {p:Int×Int} (h:affR a=.error p):tabR a d=.error (1,p.1,p.2):=by rw [tabR,h]
theorem tabR_dic {a d:List UInt8} {F:Fl} {p:Int×Int} (h:affR a=.ok F) (h2:dicR F d=.error p):tabR a d=.error (2,p.1,p.2):=by rw [tabR,h];simp only [h2]
theorem tabR_ok {a d:List UInt8} {F:Fl} {es:List En} (h:affR a=.ok F) (h2:dicR F d=.ok es):tabR a d=.ok (F,es):=by rw [tabR,h];simp only [h2]
theorem ent_at:∀(xs:List EnM) (k:Nat) (hk:k < xs.length),(entCells xs)[k*2]?=some (.string xs[k].1)∧(entCells xs)[k*2+1]?=some xs[k].2.1
 | [],_,hk=>absurd hk (Nat.not_lt_zero _)
 | x::r,0,_=>⟨rfl,rfl⟩
 | x::r,k+1,hk=>by
   have hk':k < r.length:=by simpa using hk
   have e:entCells (x::r)=[.string x.1,x.2.1]++entCells r:=by simp [entCells]
   have h:=ent_at r k hk'
   rw [e,List.getElem?_append_right (by simp;omega),List.getElem?_append_right (by simp;omega)]
   have e1:(k+1)*2 - ([.string x.1,x.2.1]:List Value).length=k*2:=by simp;omega
   have e2:(k+1)*2+1 - ([.string x.1,x.2.1]:List Value).length=k*2+1:=by simp;omega
   rw [e1,e2]
   exact h
theorem ent_set:∀(xs:List EnM) (k:Nat) (hk:k < xs.length) (u:Value),(entCells xs).set (k*2+1) u=entCells (xs.set k (xs[k].1,u,xs[k].2.2))
 | [],_,hk,_=>absurd hk (Nat.not_lt_zero _)
 | x::r,0,_,u=>rfl
 | x::r,k+1,hk,u=>by
   have hk':k < r.length:=by simpa using hk
   have:=ent_set r k hk' u
   have e:entCells (x::r)=[.string x.1,x.2.1]++entCells r:=by simp [entCells]
   have e2:entCells ((x::r).set (k+1) ((x::r)[k+1].1,u,(x::r)[k+1].2.2))=[.string x.1,x.2.1]++entCells (r.set k (r[k].1,u,r[k].2.2)):=by simp [entCells]
   rw [e2,←this,e,List.set_append_right _ _ (by simp;omega)]
   congr 2
   simp;omega
theorem entAbs_set (xs:List EnM) (k:Nat) (hk:k < xs.length) (u:Value):entAbs (xs.set k (xs[k].1,u,xs[k].2.2))=entAbs xs:=by
 unfold entAbs
 rw [List.map_set]
 apply List.ext_getElem
 ·simp
 intro i h1 h2
 rw [List.getElem_set]
 split
 ·rename_i e;subst e;simp
 rfl
theorem entAbs_get {xs:List EnM} {es:List En} (h:entAbs xs=es) {k:Nat} (hk:k < xs.length):∃hk':k < es.length,es[k]=(xs[k].1,xs[k].2.2):=by
 subst h
 exact⟨by rw [entAbs_len];exact hk,by simp [entAbs]⟩
theorem oneEnt {w:World} (xs:List EnM) (h:∀x∈xs,FS w x.2.1 x.2.2):∀u∈entCells xs,u.oneCell'=true:=by
 intro u hu
 simp only [entCells,List.mem_flatMap] at hu
 obtain⟨x,hx,hu⟩:=hu
 simp at hu
 rcases hu with rfl | rfl
 ·rfl
 exact (h x hx).one
def EntN (B:Nat) (w:World) (v:Value) (es:List En):Prop:=∃xs:List EnM,entAbs xs=es∧w.ownsRow B 35 2 v xs.length (entCells xs)∧∀x∈xs,FN B w x.2.1 x.2.2
def EntR (w:World) (v:Value) (es:List En):Prop:=∃xs:List EnM,entAbs xs=es∧Rd w 2 v xs.length (entCells xs)∧∀x∈xs,FS w x.2.1 x.2.2
theorem EntN.kept {B:Nat} {X:List Nat} {W W':World} {v:Value} {es:List En} (h:EntN B W v es) (hk:Kept X W W') (hX:∀x∈X,x < B):EntN B W' v es:=by
 obtain⟨xs,h1,h2,h3⟩:=h
 exact⟨xs,h1,own_kept h2 hk hX,fun x hx=>(h3 x hx).kept hk hX⟩
theorem EntN.mono {B B':Nat} {W:World} {v:Value} {es:List En} (h:EntN B W v es) (hB:B'≤B):EntN B' W v es:=by
 obtain⟨xs,h1,h2,h3⟩:=h
 exact⟨xs,h1,own_mono h2 hB,fun x hx=>(h3 x hx).mono hB⟩
theorem EntN.rd {B:Nat} {W:World} {v:Value} {es:List En} (h:EntN B W v es):EntR W v es:=by
 obtain⟨xs,h1,h2,h3⟩:=h
 exact⟨xs,h1,Rd.of_own h2,fun x hx=>(h3 x hx).fs⟩
theorem EntR.keep {W W':World} {v:Value} {es:List En} (h:EntR W v es) (hb:Below W.heap.size W W'):EntR W' v es:=by
 obtain⟨xs,h1,h2,h3⟩:=h
 exact⟨xs,h1,h2.keep hb,fun x hx=>(h3 x hx).keep hb⟩
def EntM (w:World) (G:Nat) (W:World) (xs:List EnM) (k:Nat):Prop:=∀(j:Nat) (hj:j < xs.length),(j < k→FN G W xs[j].2.1 xs[j].2.2)∧(k≤j→FS w xs[j].2.1 xs[j].2.2)
theorem EntM.kept {w:World} {G:Nat} {X:List Nat} {W W':World} {xs:List EnM} {k:Nat} (h:EntM w G W xs k) (hk:Kept X W W') (hX:∀x∈X,x < G):EntM w G W' xs k :=
 fun j hj=>⟨fun hk'=>((h j hj).1 hk').kept hk hX,(h j hj).2⟩
theorem EntM.step {w:World} {G:Nat} {W:World} {xs:List EnM} {k:Nat} (h:EntM w G W xs k) (hk:k < xs.length) {u:Value} (hu:FN G W u xs[k].2.2):EntM w G W (xs.set k (xs[k].1,u,xs[k].2.2)) (k+1):=by
 intro j hj
 rw [List.length_set] at hj
 rw [List.getElem_set]
 split
 ·rename_i e;subst e
  exact⟨fun _=>hu,fun h=>absurd h (by omega)⟩
 rename_i e
 exact⟨fun hj'=>(h j hj).1 (by omega),fun hj'=>(h j hj).2 (by omega)⟩
theorem so_Entries (wb:Nat) (es:List En) (w:World) (h:WordsAt w wb es) (hok:EsOk es) :
  Calls Tryz.prog 36 #[.pointer (some ⟨wb,0,none⟩)] w fun e w'=>∃v,e=.returned v∧EntN w.heap.size w' v es∧Below w.heap.size w w':=by
 obtain⟨mb,lv,xs,h1,h2,h3,h4,-⟩:=h
 have c0:w.cell? ⟨wb,0,none⟩=some lv:=by rw [cell_of_heap h1];rfl
 have hxl:xs.length=es.length:=by rw [←h2,entAbs_len]
 have hn:xs.length≤65536:=by rw [hxl];exact hok.len
 have HQ:=hid (so_CloneEnt lv xs.length (entCells xs) w h3 (oneEnt xs h4) hn)
 have HE:=hid h2
 have HF:=hid h4
 have HOk:=hid hok
 have hwb:=block_lt h1
 obtain⟨-,p,c,rfl,-,-⟩:=h3
 clear h1 h2 h4 hxl hok
 go_enter Tryz.func36,Tryz.ntmps36
 go_wp2_with (go_at_call 66;refine HQ.out.mono ?_;rintro e wA ⟨v',rfl,ho⟩;have HB:=hid ho.below;have HO:=hid ho.own;obtain⟨A1,k1,rfl⟩:=own_slice ho.own;clear ho HQ;obtain⟨n,hxn⟩:∃n,xs.length=n:=⟨_,rfl⟩;have HN:=hid hxn;rw [hxn] at HO hn ⊢;clear hxn)
 go_loopw [4,14] (fun _ x wr=>∃(k:Nat) (ys:List EnM),k≤n∧x=.int .i64 k∧Hid (ys.length=n)∧Hid (entAbs ys=es)∧Hid (wr.ownsRow w.heap.size 35 2 (.slice A1 n k1) n (entCells ys))∧Hid (EntM w wA.heap.size wr ys k)∧Hid (Below w.heap.size w wr)∧Hid (wA.heap.size≤wr.heap.size)) (fun _ x _=>n - (intOf x).toNat)
 case atStart=>exact⟨0,xs,Nat.zero_le _,rfl,HN,HE,HO,hid (fun j hj=>⟨fun h=>absurd h (Nat.not_lt_zero _),fun _=>HF.out _ (List.getElem_mem hj)⟩),HB,hid (Nat.le_refl _)⟩
 case round =>
 obtain⟨k,ys,hk,rfl,HL,HA,HR,HM,HBr,HZr⟩:=hrel
 by_cases hlt:k < n
 ·have HGA:Hid (∀g,A1=some ⟨g,0,none⟩→g < wA.heap.size):=hid (fun g hA=>by
   obtain⟨g',cap,hv,-,-,hl,-⟩:=own_at HO.out (by omega)
   injection hv with e1
   rw [hA] at e1
   injection e1 with e1
   injection e1 with e1
   omega)
  obtain⟨g,cap,hva,hcap,hg,hgl,hcs,hzs⟩:=own_at HR.out (by omega)
  cases hva
  have hgA:g < wA.heap.size:=HGA.out g rfl
  have hmu:k < ys.length:=by rw [HL.out];exact hlt
  obtain⟨-,q1⟩:=ent_at ys k hmu
  have dk:=hcs _ _ q1
  have zk:=hzs (k*2+1)
  have hfs:=(HM.out k hmu).2 (Nat.le_refl _)
  obtain⟨hke,hek⟩:=entAbs_get HA.out hmu
  have hset:=(HOk.out.each _ (List.getElem_mem hke)).1
  rw [hek] at hset
  have hbn:=hset.len
  obtain⟨y,hy⟩:∃y,ys[k]=y:=⟨_,rfl⟩
  obtain⟨y1,u,b⟩:=y
  rw [hy] at dk hfs hbn
  dsimp only at dk hfs hbn
  have HYk:Hid (ys[k]=(y1,u,b)):=hid hy
  have HQf:Hid (∀W,Below w.heap.size w W→Calls Tryz.prog 40 #[u] W fun e w'=>∃v',e=.returned v'∧FN W.heap.size w' v' b∧Below W.heap.size W w'):=hid (fun W hW=>so_CloneF u b W (hfs.keep hW) (by omega))
  obtain⟨pu,cu,rfl,-⟩:=hfs
  have hkn:(k:Int) < (n:Int):=by omega
  clear hcs hzs hy hset hek hke q1 HGA
  go_wp2_with (go_at_call 40;refine (HQf.out _ HBr.out).mono ?_;rintro e w8 ⟨v8,rfl,hfn,hb8⟩;obtain⟨p8,c8,rfl⟩:∃p c,v8=.slice p b.length c:=(by obtain⟨p,c,hv,-⟩:=hfn;exact⟨p,c,hv⟩);have HB8:=hid hb8;have HFN:=hid hfn;have d8:=(hb8.cell (p:=⟨g,k*2+1,none⟩) hgl).trans dk;have z8:=(hb8.frozen (p:=⟨g,k*2+1,none⟩) hgl).trans zk;clear hfn hb8)
  go_roundw
  case rel =>
   refine⟨k+1,ys.set k (y1,.slice p8 b.length c8,b),by omega,by go_num,hid (by rw [List.length_set];exact HL.out),hid ?_,hid ?_,hid ?_,hid ((HBr.out.trans (HB8.out.mono HBr.out.size)).setCell hg _),hid (by have:=HB8.out.size;have:=HZr.out;simp;omega)⟩
   ·have:=entAbs_set ys k hmu (.slice p8 b.length c8)
    rw [HYk.out] at this
    rw [this];exact HA.out
   ·have h5:=ent_set ys k hmu (.slice p8 b.length c8)
    rw [HYk.out] at h5
    rw [←h5]
    exact own_put (own_below HR.out HB8.out) _ _
   have h6:=((HM.out.kept (Kept.of_below (E:=[]) HB8.out) (by simp)).kept (set_kept w8 g (k*2+1) (.slice p8 b.length c8)) (by simp;omega)).step hmu (u:=.slice p8 b.length c8) (by rw [HYk.out];exact (HFN.out.mono HZr.out).kept (set_kept _ _ _ _) (by simp;omega))
   rw [HYk.out] at h6
   exact h6
  case measure=>simp [intOf];omega
 obtain rfl:k=n:=by omega
 go_wp2_with fail
 go_ret
 exact⟨_,rfl,⟨ys,HA.out,by rw [HL.out];exact HR.out,fun x hx=>by
  obtain⟨j,hj,rfl⟩:=List.mem_iff_getElem.1 hx
  exact ((HM.out j hj).1 (by have:=HL.out;omega)).mono HB.out.size⟩,HBr.out⟩
end Go.Proofs.YtfkblpjfknfgbaaGreatDoor
