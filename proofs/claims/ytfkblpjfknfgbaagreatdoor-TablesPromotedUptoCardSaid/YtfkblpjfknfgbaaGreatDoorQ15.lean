import Derived.BigQuiet
import Derived.Test.YtfkblpjfknfgbaaGreatDoorRows
import Derived.Test.YtfkblpjfknfgbaaGreatDoorQ14
import Derived.Test.YtfkblpjfknfgbaaGreatDoorQ9
import Derived.Test.YtfkblpjfknfgbaaGreatDoorQ3
import Derived.Test.YtfkblpjfknfgbaaGreatDoorQ1
set_option linter.unusedVariables false
set_option linter.unusedSimpArgs false
set_option maxHeartbeats 8000000
set_option maxRecDepth 100000
open Go.Maps Go.RowKit
open Go.Lib (hid cell_of_heap frozen_of_heap wpList_append_run run_eql_slice_nil)
open Go.World (block_lt_of_cell?)
namespace Go.Proofs.YtfkblpjfknfgbaaGreatDoor
theorem tF:∀(rs:List nT) (k:Nat) (h:k < rs.length),(bq rs)[k*2]?=some (.int .i64 rs[k].1)∧(bq rs)[k*2+1]?=some rs[k].2.1
 | [],_,hk=>absurd hk (Nat.not_lt_zero _)
 | c::r,0,_=>⟨rfl,rfl⟩
 | c::r,k+1,hk=>by
   have:=tF r k (by simpa using hk)
   have e:bq (c::r)=[.int .i64 c.1,c.2.1]++bq r:=by simp [bq]
   have key:∀j,(bq (c::r))[(k+1)*2+j]?=(bq r)[k*2+j]?:=fun j=>by
    rw [e,List.getElem?_append_right (by simp;omega)]
    congr 1
    simp;omega
   exact⟨(key 0).trans this.1,(key 1).trans this.2⟩
theorem tH {w0:World} {A:Option Addr} {n cap a:Nat} {all:List Row} (h:gB w0 (.slice A n cap) all) (ha:a < all.length) :
  ∃g o fv,A=some ⟨g,o,none⟩∧w0.cell? ⟨g,o+a*2,none⟩=some (.int .i64 all[a].1)∧w0.cell? ⟨g,o+a*2+1,none⟩=some fv∧Rd w0 1 fv all[a].2.length (bn all[a].2):=by
 obtain⟨rs,hab,hr,hd2⟩:=h
 have hl:rs.length=all.length:=by rw [←hab];simp [dP]
 have hlr:a < rs.length:=by omega
 have hx:all[a]=((rs[a]).1,(rs[a]).2.2):=by subst hab;simp [dP]
 obtain⟨-,A',cap',hv,hcap,hc⟩:=hr
 cases hv
 obtain⟨g,o,rfl,hc2⟩:=hc.resolve_left (by omega)
 obtain⟨q0,q1⟩:=tF rs a hlr;have e0:=hc2 _ _ q0;have e1:=hc2 _ _ q1;rw [←Nat.add_assoc] at e1;rw [hx]
 exact⟨g,o,_,rfl,e0,e1,(hd2 rs[a] (List.getElem_mem hlr)).rd⟩
def P6 (w:World) (P:Option Addr) (rest:List Row):Prop:=∀k (_:k < rest.length),∃g o fv,P=some ⟨g,o,none⟩∧w.cell? ⟨g,o+k*2,none⟩=some (.int .i64 rest[k].1)∧w.cell? ⟨g,o+k*2+1,none⟩=some fv∧Rd w 1 fv rest[k].2.length (bn rest[k].2)
theorem P6.of {w:World} {g o n cap:Nat} {x:Row} {rest:List Row} (h:gB w (.slice (some ⟨g,o,none⟩) n cap) (x::rest)):P6 w (some ⟨g,o+2,none⟩) rest:=fun k hk=>by
 obtain⟨g',o',fv,hA,e0,e1,hr⟩:=tH h (a:=k+1) (by simp;omega)
 cases hA
 simp only [List.getElem_cons_succ] at e0 e1 hr
 rw [show o+(k+1)*2=o+2+k*2 by omega] at e0 e1
 exact⟨g,o+2,fv,rfl,e0,e1,hr⟩
theorem gB.VR {w w':World} {v:Value} {all:List Row} (h:gB w v all) (hb:Below w.heap.size w w'):gB w' v all:=by
 obtain⟨rs,h1,h2,h3⟩:=h
 exact⟨rs,h1,h2.keep hb,fun r hr=>(h3 r hr).keep hb⟩
theorem D9 {F:Fl} {E l0:Int} {row0:List ByteArray} {rest:List Row} (h:(kM row0).2≠0):dh F E ((l0,row0)::rest)=.error (l0,(kM row0).2):=by
 unfold kM at h ⊢
 rw [dh]
 by_cases h1:row0.length≠1
 ·rw [if_pos h1,if_pos h1]
 rw [if_neg h1] at h ⊢;dsimp only at h ⊢;rw [if_neg h1,if_pos h]
 rcases dK (fieldAt row0 0).data.toList 8192 with e | e
 ·exact absurd e h
 rw [e]
theorem Gg {F:Fl} {E l0:Int} {row0:List ByteArray} {rest:List Row} (h:(kM row0).2=0):dh F E ((l0,row0)::rest)=match vS F (kM row0).1 0 rest with | .error p=>.error p | .ok xs=>if (xs.length:Int) < (kM row0).1 then .error (E,116) else .ok xs:=by
 unfold kM at h ⊢
 rw [dh]
 by_cases h1:row0.length≠1
 ·rw [if_pos h1] at h;simp at h
 rw [if_neg h1] at h ⊢;dsimp only at h ⊢
 rw [if_neg h1,if_neg (by rw [h];simp)]
 rfl
structure RB (w W:World):Prop where
 base:Below w.heap.size w W
 res:W.heap[w.heap.size]?=some (.cells #[.int .i64 0,.int .i64 0,.int .i64 0] 60 (0,0))
section
variable {w W W':World}
theorem RB.start (w:World):RB w (w.alloc (.cells #[.int .i64 0,.int .i64 0,.int .i64 0] 60)):=⟨(Below.refl _ _).alloc (Nat.le_refl _) _,heap_alloc_new w _⟩
theorem RB.size (h:RB w W):w.heap.size+1≤W.heap.size:=block_lt h.res
theorem RB.kept {X:List Nat} (h:RB w W) (hk:Kept X W W') (hX:∀x∈X,w.heap.size+1≤x):RB w W' :=
 ⟨h.base.trans (hk.below (B:=w.heap.size) (by have:=h.size;omega) (fun x hx=>by have:=hX x hx;omega)),hk.at h.res (fun hm=>by have:=hX _ hm;omega)⟩
theorem RB.below (h:RB w W) (hb:Below W.heap.size W W'):RB w W':=h.kept (X:=[]) (Kept.of_below hb) (by simp)
theorem RB.q (h:RB w W) (j:Nat):W.cell? ⟨w.heap.size,j,none⟩=(#[.int .i64 0,.int .i64 0,.int .i64 0]:Array Value)[j]?:=cell_of_heap h.res j
theorem RB.z (h:RB w W) (j:Nat):W.frozen? ⟨w.heap.size,j,none⟩=false:=frozen_of_heap h.res j
theorem RB.done (h:RB w W) (a b c:Value):Below w.heap.size w (((W.setCell ⟨w.heap.size,0,none⟩ a).setCell ⟨w.heap.size,1,none⟩ b).setCell ⟨w.heap.size,2,none⟩ c):=((h.base.setCell (Nat.le_refl _) _).setCell (Nat.le_refl _) _).setCell (Nat.le_refl _) _
end
theorem Cc {F:Fl} {row:List ByteArray} {c:Int} (h:jy F row=.error c):c≠0:=by
 unfold jy at h
 split at h
 ·cases h;decide
 split at h
 rename_i wd rest cut e _
 split at h
 ·cases h;assumption
 unfold gy at h
 split at h
 ·cases h;decide
 split at h
 ·cases h;decide
 split at h
 ·cases h
 unfold nJ at h
 split at h
 ·cases h;assumption
 split at h
 ·cases h
 cases h;decide
theorem DW.grown {W wr w1:World} {mb wb n:Nat} {lv:Value} {xs:List ug} {hd:ByteArray→Value} {ix:ByteArray→List Int} (h:DW W wr mb wb n lv xs hd ix) (hg:wr.grownBy w1 lv.ownBlock) :
  w1.heap[wb]?=some (.cells #[lv,.map (some mb)] 136 (0,0))∧∀y,y < wr.heap.size→lv.ownBlock≠some y→w1.heap[y]?=wr.heap[y]?:=by
 obtain⟨a1,-⟩:=h.apart
 obtain⟨L,hL⟩:∃L:List Nat,L=(match lv.ownBlock with | some g=>[g] | none=>[]):=⟨_,rfl⟩
 have II:∀g,g∈L→lv.ownBlock=some g:=fun g hm=>by
  rw [hL] at hm
  cases hb:lv.ownBlock with
  | none=>rw [hb] at hm;simp at hm
  | some g'=>rw [hb] at hm;simp at hm;rw [hm]
 have hk1:Kept L wr w1:=Kept.grown hg (fun k hk=>by rw [hL,hk];simp)
 exact⟨hk1.at h.words (fun hm=>(a1 _ (II _ hm)).2.1 rfl),fun y hy hne=>hk1.block y hy (fun hm=>hne (II y hm))⟩
theorem AB {F:Fl} {row:List ByteArray} {x:En} (h:jy F row=.ok x):x.1.size≤64:=by
 unfold jy at h
 split at h
 ·cases h
 split at h
 rename_i wd rest cut e _
 split at h
 ·cases h
 unfold gy at h
 split at h
 ·cases h
 split at h
 ·cases h
 rename_i h64
 have hm:(mkS wd).size=wd.length:=aG wd
 split at h
 ·cases h;show (mkS wd).size≤64;omega
 unfold nJ at h
 split at h
 ·cases h
 split at h
 ·cases h;show (mkS wd).size≤64;omega
 cases h
theorem lD {w w1:World} {r:Option Nat} (hg:w.grownBy w1 r) (y:Nat) (hy:y < w.heap.size) (hne:r≠some y):w1.heap[y]?=w.heap[y]?:=by
 cases r with
 | none=>exact (Kept.grown (E:=[]) hg (fun k hk=>by cases hk)).block y hy (by simp)
 | some g=>exact (Kept.grown (E:=[g]) hg (fun k hk=>by cases hk;simp)).block y hy (by simp only [List.mem_singleton];intro e;exact hne (by rw [e]))
theorem J_:(Tryz.prog.info? 3).map (fun i=>(i.zero,i.size,i.bytes))=some (some (.int .i64 0),1,8):=by kernel_rfl
theorem D_:(Tryz.prog.info? 35).map (fun i=>(i.zero,i.size,i.bytes))=some (some (.agg #[.string ByteArray.empty,.slice none 0 0]),2,40):=by kernel_rfl
theorem RB.ne {w W:World} (h:RB w W) {v:Value} {zs:List Int} (hf:FS W v zs):∀g o n c,v=.slice (some ⟨g,o,none⟩) n c→n≠0→g≠w.heap.size:=fun g o n c e hn e2=>by
 obtain⟨p,c',hv,-,hrow⟩:=hf
 rw [e] at hv
 injection hv with e3 e4 e5
 obtain⟨b,off,hp,hc⟩:=hrow.resolve_left (by omega)
 rw [←e3] at hp
 cases hp
 have h1:=hc 0 (by omega)
 rw [e2,Nat.add_zero,cell_of_heap h.res] at h1
 rcases o with _ | _ | _ | o
 ·simp at h1
 ·simp at h1
 ·simp at h1
 ·simp at h1
theorem iH.fin {w W wr:World} {mb wb n:Nat} {lv:Value} {xs:List ug} {hd:ByteArray→Value} {ix:ByteArray→List Int} (h:DW W wr mb wb n lv xs hd ix) (hr:RB w wr) (hw:w.heap.size < W.heap.size) (hwb:wb≠w.heap.size) (hix:ix=D8 (dU xs)) (a b c:Value) :
  iH (((wr.setCell ⟨w.heap.size,0,none⟩ a).setCell ⟨w.heap.size,1,none⟩ b).setCell ⟨w.heap.size,2,none⟩ c) wb (dU xs):=by
 have hk:Kept [w.heap.size] wr (((wr.setCell ⟨w.heap.size,0,none⟩ a).setCell ⟨w.heap.size,1,none⟩ b).setCell ⟨w.heap.size,2,none⟩ c):=(((Kept.refl _ wr).set _ _ _ (.inl (by simp))).set _ _ _ (.inl (by simp))).set _ _ _ (.inl (by simp))
 refine⟨mb,lv,xs,hk.at h.words (by simpa using hwb),rfl,Rd.aN (hk.own h.list (fun g hg hm=>by have:=(iK h.list hg).1;simp at hm;omega)),fun x hx=>?_,W.heap.size,n,hd,?_⟩
 rotate_left
 ·rw [←hix]
  refine h.found.kept hk ?_ (fun s g hg hm=>by have:=(iK (h.found.rows s) hg).1;simp at hm;omega)
  simp only [List.mem_singleton]
  intro e
  obtain⟨D,⟨es,clock,hb,-⟩,-⟩:=h.found.map;rw [e,hr.res] at hb
  cases hb
 obtain⟨h1,h2⟩:=h.fl x hx
 exact h1.blocks (fun g o n c e hn=>hk.block g (h2 g o n c e hn).1 (by simpa using hr.ne h1 g o n c e hn))
theorem dz (xs:List ug):(dU xs).length=xs.length:=by simp [dU]
theorem Gh (F:Fl) (vr va vc vl:Value) (W:World):(Instr.field 83 (.agg #[.int .i64 F.kind,.string F.charset,.string F.qI,.int .u16 F.s0,.int .u16 F.s1,.int .u16 F.s2,.int .u16 F.s3,.int .u16 F.s4,.int .i64 F.least,vr,va,vc,vl]) 3).run Tryz.prog W=.ok (.agg #[.int .u16 F.s0,.int .u16 F.s1,.int .u16 F.s2,.int .u16 F.s3,.int .u16 F.s4]) W:=by
 first | kernel_rfl | rfl | simp [go_sem]
theorem qP.start {w:World} {mb:Nat} (B:Nat) (hb:w.heap[mb]?=some (.map #[] 0)):qP B w mb 0 (fun _=>.slice none 0 0) (fun _=>[]):=by
 obtain⟨D,⟨es,clock,h1,F,hs,hD⟩,h2⟩:=(qP.made w).map
 have h3:=heap_alloc_new w (.map #[] 0);rw [h1] at h3;have h4:=Option.some.inj h3;rw [h4] at h1
 injection h4 with e1 e2
 subst e1 e2
 exact⟨⟨D,⟨#[],0,hb,F,hs,hD⟩,h2⟩,fun _=>World.ownsRow_nil _ _ _ _,fun _ _ _ _ h=>by simp [Value.ownBlock] at h,fun _=>Nat.zero_le _⟩
theorem DW.start {W:World} {mb wb:Nat} (hm:W.heap[mb]?=some (.map #[] 0)) (hw:W.heap[wb]?=some (.cells #[.slice none 0 0,.map (some mb)] 136 (0,0))):DW W W mb wb 0 (.slice none 0 0) [] (fun _=>.slice none 0 0) (fun _=>[]) :=
 ⟨Kept.refl _ _,block_lt hm,block_lt hw,hw,World.ownsRow_nil _ _ _ _,qP.start _ hm,fun x hx=>by cases hx⟩
theorem yc (fb:Nat) (F:Fl) (s:ByteArray) (m0:Int) (w:World) (hf:gu w fb F) (hok:iU F) (h0:0 < w.heap.size) (hm:w.cell? ⟨0,0,none⟩=some (.int .i64 m0)) :
  Calls Tryz.prog 18 #[.pointer (some ⟨fb,0,none⟩),.string s] w (Y4 (mg F s.data.toList) w):=by
 have F3:=hid (RB.start w)
 obtain⟨wA,BR⟩:∃W,w.alloc (.cells #[.int .i64 0,.int .i64 0,.int .i64 0] 60)=W:=⟨_,rfl⟩;rw [BR] at F3
 have HM:Hid (∀W,Below w.heap.size w W→0 < W.heap.size∧W.cell? ⟨0,0,none⟩=some (.int .i64 m0)):=hid (fun W hW=>⟨Nat.lt_of_lt_of_le h0 hW.size,(hW.cell (block_lt_of_cell? _ _ hm)).trans hm⟩)
 have lW:=hid (Ap s m0 wA (HM.o wA F3.o.base).1 (HM.o wA F3.o.base).2)
 have LJ:Hid (∀W,Below w.heap.size w W→Calls Tryz.prog 41 #[.string s] W fun e W'=>∃v rs,e=.returned (.tuple #[v,.int .i64 (jB s)])∧W'.ownsRow W.heap.size 133 2 v rs.length (bq rs)∧gK W' rs∧dP rs=rowsOf (aC s.data.toList)∧Below W.heap.size W W'):=hid (fun W hW=>DJ s m0 W (HM.o W hW).1 (HM.o W hW).2)
 have HF:=hid hf;have jr:=hid hok;clear h0 hm hf hok
 by_cases hbig:65536 < s.size
 ·have HX:Hid (mg F s.data.toList=.error (0,10)):=hid (by rw [mg,if_pos (by rw [ak];exact hbig)])
  rw [if_pos hbig] at lW;rw [HX.o];clear hbig HX
  go_enter Tryz.func18,Tryz.ntmps18
  go_wp2_with (first
   | (go_at_call 42;refine lW.o.mono ?_;rintro e w1 ⟨v1,rfl,-,hb⟩;have HR1:=hid (F3.o.below hb);clear hb)
   | (go_at_call 48;refine (jL _ _ _).mono ?_;rintro e w2 ⟨rfl,hb⟩;have HR2:=hid (HR1.o.below hb);clear hb;have q0:=HR2.o.q 0;have q1:=HR2.o.q 1;have q2:=HR2.o.q 2;simp only [List.getElem?_toArray,List.getElem?_cons_zero,List.getElem?_cons_succ] at q0 q1 q2;have z0:=HR2.o.z 0;have z1:=HR2.o.z 1;have z2:=HR2.o.z 2))
  refine bodyPost_ret (v:=.tuple #[.pointer none,.agg #[.int .i64 2,.int .i64 0,.int .i64 10]]) (by simp [results,Tryz.results18,go_sem,q0,q1,q2];try rfl) rfl ?_
  exact⟨HR2.o.done _ _ _,rfl⟩
 rw [if_neg hbig] at lW
 have hE:aC s.data.toList=numbered 1 (aV s.data.toList):=by rw [aC,if_neg (by rw [ak];exact hbig)]
 have hnl:(aC s.data.toList).length=(aV s.data.toList).length:=by rw [hE,iq]
 have HX:Hid (mg F s.data.toList=dh F ((aC s.data.toList).length+1) (rowsOf (aC s.data.toList))):=hid (by rw [mg,if_neg (by rw [ak];exact hbig),hnl])
 have hcode:jB s=0:=by unfold jB;rw [if_neg hbig]
 rw [hcode] at LJ;have zy:=hid (Ce s.data.toList);have hne2:=gZ s.data.toList;have hrn:(rowsOf (aC s.data.toList)).length≤65536:=Nat.le_trans (nL _) hne2;rw [HX.o];clear hbig hE hnl HX hcode;obtain⟨nE,Fh⟩:∃n,(aC s.data.toList).length=n:=⟨_,rfl⟩;rw [Fh] at lW hne2 ⊢
 generalize rowsOf (aC s.data.toList)=all at *
 clear Fh
 have hwr:IntKind.i64.wrap ((nE:Int)+1)=(nE:Int)+1:=by rw [IntKind.wrap_i64];omega
 go_enter Tryz.func18,Tryz.ntmps18
 go_upto_region 6 with (go_at_call 42;refine lW.o.mono ?_;rintro e w1 ⟨v1,rfl,ho1,hb⟩;obtain⟨A1,c1,rfl⟩:=aF ho1;have HR1:=hid (F3.o.below hb);clear hb ho1)
 go_upto_region 7 with (go_at_call 41;refine (LJ.o _ HR1.o.base).mono ?_;rintro e w2 ⟨v2,rs,rfl,ho2,hrr,habs,hb⟩;have HR2:=hid (HR1.o.below hb);have sP:Hid (gB w2 v2 all):=hid ⟨rs,habs,Rd.aN ho2,hrr⟩;have hrl:rs.length=all.length:=(by rw [←habs];simp [dP]);obtain⟨A2,c2,rfl⟩:=aF ho2;clear hb hrr habs ho2)
 have PN:Hid (gB w2 (.slice A2 all.length c2) all):=hid (by rw [←hrl];exact sP.o)
 clear hrl sP rs;have sP:=PN;clear PN
 match all,hrn,sP,zy with
 | [],_,_,_ =>
  go_wp2_with (go_at_call 48;refine (jL _ _ _).mono ?_;rintro e w3 ⟨rfl,hb⟩;have HR3:=hid (HR2.o.below hb);clear hb;have q0:=HR3.o.q 0;have q1:=HR3.o.q 1;have q2:=HR3.o.q 2;simp only [List.getElem?_toArray,List.getElem?_cons_zero,List.getElem?_cons_succ] at q0 q1 q2;have z0:=HR3.o.z 0;have z1:=HR3.o.z 1;have z2:=HR3.o.z 2)
  refine bodyPost_ret (v:=.tuple #[.pointer none,.agg #[.int .i64 2,.int .i64 ((nE:Int)+1),.int .i64 116]]) (by simp [results,Tryz.results18,go_sem,q0,q1,q2];try rfl) rfl ?_
  exact⟨HR3.o.done _ _ _,rfl⟩
 | (l0,row0)::rest,hrn,sP,zy =>
  have Y7:Hid (rest.length+1≤c2):=hid (by obtain⟨rs,hab,⟨-,A',cap',hv,hcap,-⟩,-⟩:=sP.o;injection hv with _ e1 e2;have e3:((l0,row0)::rest).length=rest.length+1:=rfl;omega)
  obtain⟨g,o,fv,rfl,e0,e1,hrd⟩:=tH sP.o (a:=0) (by simp)
  simp only [List.getElem_cons_zero,Nat.zero_mul,Nat.add_zero] at e0 e1 hrd;have BM:=hid (P6.of sP.o)
  obtain⟨-,b1,b2,-,-⟩:=zy.o (l0,row0) (by simp)
  dsimp only at b1 b2
  have JR:Hid (∀W,Below w2.heap.size w2 W→Calls Tryz.prog 49 #[.agg #[.int .i64 l0,fv]] W fun e w'=>e=.returned (.tuple #[.int .i64 (kM row0).1,.int .i64 (kM row0).2])∧Below W.heap.size W w'):=hid (fun W hW=>MR l0 fv row0 W (hrd.keep hW) (aL b2) (by omega))
  have Y8:Hid (∀W,Below w2.heap.size w2 W→W.cell? ⟨g,o,none⟩=some (.int .i64 l0)):=hid (fun W hW=>(hW.cell (block_lt_of_cell? _ _ e0)).trans e0)
  obtain⟨-,Af,cf,rfl,-,-⟩:=hrd;have Y9:=hid (@D9 F ((nE:Int)+1) l0 row0 rest);have Y_:=hid (@Gg F ((nE:Int)+1) l0 row0 rest);have hlen:((l0,row0)::rest).length=rest.length+1:=rfl;obtain⟨⟨cnt,hc⟩,hhd⟩:∃r,kM row0=r:=⟨_,rfl⟩;rw [hhd] at JR Y9 Y_;dsimp only at JR Y9 Y_;rw [hlen] at sP hrn ⊢
  have hl0:((((rest.length+1:Nat):Int))==0)=false:=by rw [beq_eq_false_iff_ne];omega
  clear hhd b1 b2 hlen
  go_upto_region 10 with (go_at_call 49;refine (JR.o _ (Below.refl _ _)).mono ?_;rintro e w3 ⟨rfl,hb⟩;have HR3:=hid (HR2.o.below hb);have Xy:=hid hb;clear hb)
  clear e0 e1;have e0:=Y8.o w3 Xy.o
  by_cases Vb:hc=0
  ·subst Vb
   have t_:=hid (Y_.o rfl)
   clear e0;have hmk:(Instr.makeMap 134 none).run Tryz.prog w3=.ok (.map (some w3.heap.size)) (w3.alloc (.map #[] 0)):=run_makeMap _ _;obtain⟨wS,VT⟩:∃W,(w3.alloc (.map #[] 0)).alloc (.cells #[.slice none 0 0,.map (some w3.heap.size)] 136)=W:=⟨_,rfl⟩
   have hbS:Below w3.heap.size w3 wS:=by rw [←VT];exact ((Below.refl _ _).alloc (Nat.le_refl _) _).alloc (by simp) _
   have hmS:wS.heap[w3.heap.size]?=some (.map #[] 0):=by rw [←VT,Below.heap_alloc _ _ _ (by simp)];exact heap_alloc_new w3 _
   have hdS:wS.heap[w3.heap.size+1]?=some (.cells #[.slice none 0 0,.map (some w3.heap.size)] 136 (0,0)):=by
    have:=heap_alloc_new (w3.alloc (.map #[] 0)) (.cells #[.slice none 0 0,.map (some w3.heap.size)] 136)
    rw [World.size_alloc] at this;rw [←VT];exact this
   have Za:=hid (HR3.o.below hbS);have Zb:=hid (Xy.o.trans (hbS.mono Xy.o.size));have VU:=hid (⟨hmS,hdS⟩:_∧_);clear hbS hmS hdS
   have HFd:Hid (∀W vr va vc vl,(Instr.field 83 (.agg #[.int .i64 F.kind,.string F.charset,.string F.qI,.int .u16 F.s0,.int .u16 F.s1,.int .u16 F.s2,.int .u16 F.s3,.int .u16 F.s4,.int .i64 F.least,vr,va,vc,vl]) 3).run Tryz.prog W=.ok (.agg #[.int .u16 F.s0,.int .u16 F.s1,.int .u16 F.s2,.int .u16 F.s3,.int .u16 F.s4]) W):=hid (fun W vr va vc vl=>Gh F vr va vc vl W)
   go_upto_region 13 with fail
   go_upto_region 14 with (go_at_call 30;refine (xV fb F _ (HF.o.keep Za.o.base) jr.o).mono ?_;rintro e w5 ⟨⟨vr,va,vc,vl⟩,rfl,-,hb⟩;have jK:=hid hb;clear hb;have hfd:=HFd.o w5 vr va vc vl;unfold J2 zA;dsimp only)
   obtain⟨w6,Xz⟩:∃W,w5.alloc (.cells #[.int .u16 F.s0,.int .u16 F.s1,.int .u16 F.s2,.int .u16 F.s3,.int .u16 F.s4] 77)=W:=⟨_,rfl⟩
   have hb6:Below w5.heap.size w5 w6:=by rw [←Xz];exact (Below.refl _ _).alloc (Nat.le_refl _) _
   have S_:Hid (w6.heap[w5.heap.size]?=some (.cells #[.int .u16 F.s0,.int .u16 F.s1,.int .u16 F.s2,.int .u16 F.s3,.int .u16 F.s4] 77 (0,0))):=hid (by rw [←Xz];exact heap_alloc_new w5 _)
   have M0:Below wS.heap.size wS w6:=jK.o.trans (hb6.mono jK.o.size);have Fu:=hid (Za.o.below M0);have HL6:=hid (Zb.o.trans (M0.mono Zb.o.size))
   have HD0:Hid (DW w6 w6 w3.heap.size (w3.heap.size+1) 0 (.slice none 0 0) [] (fun _=>.slice none 0 0) (fun _=>[])):=hid (DW.start ((M0.block _ (block_lt VU.o.1)).trans VU.o.1) ((M0.block _ (block_lt VU.o.2)).trans VU.o.2))
   have Zc:wS.heap.size=w3.heap.size+2:=by rw [←VT];simp
   have VW:w3.heap.size+2≤w5.heap.size:=by have:=jK.o.size;omega
   rw [Xz];clear Zc Xz VT hfd hb6 M0 jK Za Zb VU hmk;have hcap:=Y7.o
   by_cases hr0:rest.length=0
   ·obtain rfl:=List.eq_nil_of_length_eq_zero hr0
    have Zd:Hid (w6.cell? ⟨w3.heap.size+1,0,none⟩=some (.slice none 0 0)):=hid HD0.o.c0
    have Ta:w.heap.size < w6.heap.size:=by have:=Fu.o.size;omega
    have VX:=hid (iH.fin HD0.o Fu.o Ta (by have:=HR3.o.size;omega) rfl)
    have acp:=HR3.o.size;clear BM sP Y8 hcap Y7 hr0
    go_wp2_with fail
    all_goals
     go_loopw [13,16,65] (fun _ _ y wr=>y=.int .i64 0∧wr=w6) (fun _ _ _ _=>0)
     case atStart=>exact⟨rfl,rfl⟩
     case round =>
     obtain⟨rfl,Ze⟩:=hrel
     subst Ze
     have c0:=Zd.o
     by_cases hlc:(0:Int) < cnt
     ·have HX:Hid (dh F ((nE:Int)+1) [(l0,row0)]=.error ((nE:Int)+1,116)):=hid (by rw [t_.o,nK];dsimp only;rw [if_pos (by simpa using hlc)])
      go_wp2_with (go_at_call 48;refine (jL _ _ _).mono ?_;rintro e w8 ⟨rfl,hb⟩;have AJ:=hid (Fu.o.below hb);clear hb;have q0:=AJ.o.q 0;have q1:=AJ.o.q 1;have q2:=AJ.o.q 2;simp only [List.getElem?_toArray,List.getElem?_cons_zero,List.getElem?_cons_succ] at q0 q1 q2;have z0:=AJ.o.z 0;have z1:=AJ.o.z 1;have z2:=AJ.o.z 2)
      refine bodyPost_ret (v:=.tuple #[.pointer none,.agg #[.int .i64 2,.int .i64 ((nE:Int)+1),.int .i64 116]]) (by simp [results,Tryz.results18,go_sem,q0,q1,q2];try rfl) rfl ?_
      rw [HX.o]
      exact⟨AJ.o.done _ _ _,rfl⟩
     have HX:Hid (dh F ((nE:Int)+1) [(l0,row0)]=.ok []):=hid (by rw [t_.o,nK];dsimp only;rw [if_neg (by simpa using hlc)])
     have q0:=Fu.o.q 0;have q1:=Fu.o.q 1;have q2:=Fu.o.q 2
     simp only [List.getElem?_toArray,List.getElem?_cons_zero,List.getElem?_cons_succ] at q0 q1 q2
     have z0:=Fu.o.z 0;have z1:=Fu.o.z 1;have z2:=Fu.o.z 2
     go_wp2_with fail
     refine bodyPost_ret (v:=.tuple #[.pointer (some ⟨w3.heap.size+1,0,none⟩),.agg #[.int .i64 0,.int .i64 0,.int .i64 0]]) (by simp [results,Tryz.results18,go_sem,q0,q1,q2];try rfl) rfl ?_
     rw [HX.o]
     exact⟨Fu.o.done _ _ _,w3.heap.size+1,rfl,VX.o _ _ _,by omega⟩
   have hc1:¬c2=1:=by omega
   obtain⟨w7,hw7⟩:∃W:World,W=w6:=⟨_,rfl⟩
   go_cut [63,64,65] from 62 to 65 (fun p q r W=>∃P C,p=.slice P rest.length C∧q=.int .i64 (rest.length:Int)∧r=.int .i64 0∧W=w7∧rest.length≤C∧Hid (P6 w2 P rest))
   case first =>
    go_wp2_with fail
    all_goals go_meet
    all_goals exact⟨_,_,rfl,rfl,rfl,hw7.symm,by omega,BM⟩
   case rest =>
   obtain⟨P,C,rfl,rfl,rfl,hwc,hC,MU⟩:=hcut
   rw [hwc,hw7];clear hwc hw7 wc w7 BM sP hcap Y7 hl0 Y8 hc1 hr0;obtain⟨sb,hsb⟩:∃n,w5.heap.size=n:=⟨_,rfl⟩;obtain⟨mb,hmb⟩:∃n,w3.heap.size=n:=⟨_,rfl⟩
   have h36:w2.heap.size≤mb:=by rw [←hmb];exact Xy.o.size
   rw [hsb] at S_ VW ⊢;rw [hmb] at HD0 VW ⊢;clear hsb hmb
   go_wp2_with fail
   go_loopw [13,16,65] (fun _ _ y wr=>∃(k:Nat) (lv:Value) (xs:List ug) (hd:ByteArray→Value) (ix:ByteArray→List Int),k≤rest.length∧y=.int .i64 k∧Hid (DW w6 wr mb (mb+1) k lv xs hd ix)∧Hid (lu F cnt rest k (dU xs))∧Hid (ix=D8 (dU xs))) (fun _ _ y _=>rest.length - (intOf y).toNat)
   case atStart=>exact⟨0,_,[],_,_,Nat.zero_le _,rfl,HD0,hid (lu.start _ _ _),hid rfl⟩
   case round =>
   obtain⟨k,lv,xs,hd,ix,hk,rfl,HD,Tc,HIX⟩:=hrel
   have HIL:Hid (∀x:En,D7 ix x.1 (ix x.1++[(k:Int)])=D8 (dU xs++[x])):=hid (fun x=>by rw [HIX.o,J9,Tc.o.1])
   have zx:Hid (RB w wr):=hid (Fu.o.kept HD.o.kept (by intro x hx;have h1:=HR2.o.size;simp at hx;omega))
   have xL:Hid (Kept [mb,mb+1] w6 wr):=hid HD.o.kept;clear HD0
   by_cases hlt:k < rest.length
   ·obtain⟨g3,o3,fv3,rfl,r0,r1,hrd⟩:=MU.o k hlt
    have Td:Hid (Below w2.heap.size w2 wr):=hid (HL6.o.trans (xL.o.below HL6.o.size (by intro x hx;simp at hx;omega)))
    have r0':=(Td.o.cell (block_lt_of_cell? _ _ r0)).trans r0;have r1':=(Td.o.cell (block_lt_of_cell? _ _ r1)).trans r1;have M4:=hrd.keep Td.o;obtain⟨-,b1,b2,-,-⟩:=zy.o rest[k] (List.mem_cons_of_mem _ (List.getElem_mem hlt));have Zf:=hid (Tc.o.many hlt)
    have Te:=hid (fun c=>Tc.o.bad (c:=c) hlt)
    have Zg:=hid (fun x=>Tc.o.more (x:=x) hlt)
    obtain⟨⟨l3,Ka⟩,hr3⟩:∃r,rest[k]=r:=⟨_,rfl⟩;rw [hr3] at r0' M4 b1 b2 Zf Te Zg;dsimp only at r0' M4 b1 b2 Zf Te Zg;obtain⟨-,XA,XB,rfl,-,-⟩:=id M4;obtain⟨w8,hw8⟩:∃W,wr.alloc (.cells #[.int .i64 l3,.slice XA Ka.length XB] 133)=W:=⟨_,rfl⟩
    have mQ:Below wr.heap.size wr w8:=by rw [←hw8];exact (Below.refl _ _).alloc (Nat.le_refl _) _
    have hx8:w8.heap[wr.heap.size]?=some (.cells #[.int .i64 l3,.slice XA Ka.length XB] 133 (0,0)):=by rw [←hw8];exact heap_alloc_new wr _
    have Dx:=hid hx8;have VY:=hid mQ;have AJ:=hid (zx.o.below mQ);clear r0 r1 hrd hr3 hx8 mQ
    go_upto_region 17 with fail
    try rw [hw8]
    clear hw8 r0' r1';have x0:w8.cell? ⟨wr.heap.size,0,none⟩=some (.int .i64 l3):=cell_of_heap Dx.o 0;have x1:w8.cell? ⟨wr.heap.size,1,none⟩=some (.slice XA Ka.length XB):=cell_of_heap Dx.o 1
    by_cases hkc:(k:Int)=cnt
    ·have HX:Hid (dh F ((nE:Int)+1) ((l0,row0)::rest)=.error (l3,116)):=hid (by rw [t_.o,Zf.o hkc])
     have VZ:((k:Int)==cnt)=true:=by rw [beq_iff_eq];exact hkc
     clear hkc
     go_wp2_with (go_at_call 48;refine (jL _ _ _).mono ?_;rintro e w9 ⟨rfl,hb⟩;have F4:=hid (AJ.o.below hb);clear hb;have q0:=F4.o.q 0;have q1:=F4.o.q 1;have q2:=F4.o.q 2;simp only [List.getElem?_toArray,List.getElem?_cons_zero,List.getElem?_cons_succ] at q0 q1 q2;have z0:=F4.o.z 0;have z1:=F4.o.z 1;have z2:=F4.o.z 2)
     refine bodyPost_ret (v:=.tuple #[.pointer none,.agg #[.int .i64 2,.int .i64 l3,.int .i64 116]]) (by simp [results,Tryz.results18,go_sem,q0,q1,q2];try rfl) rfl ?_
     rw [HX.o]
     exact⟨F4.o.done _ _ _,rfl⟩
    have VZ:((k:Int)==cnt)=false:=by rw [beq_eq_false_iff_ne];exact hkc
    have hsp:=(VY.o.block _ (block_lt (xL.o.at S_.o (by simp;omega)))).trans (xL.o.at S_.o (by simp;omega))
    have p0:=cell_of_heap hsp 0;have p1:=cell_of_heap hsp 1;have p2:=cell_of_heap hsp 2;have p3:=cell_of_heap hsp 3;have p4:=cell_of_heap hsp 4
    simp only [List.getElem?_toArray,List.getElem?_cons_zero,List.getElem?_cons_succ] at p0 p1 p2 p3 p4
    have zC:=hid (J5 fb F l3 (.slice XA Ka.length XB) Ka m0 w8 (HF.o.keep AJ.o.base) jr.o (M4.keep VY.o) (aL b2) (by omega) (HM.o _ AJ.o.base).2)
    unfold VK at zC;clear hsp M4 b1 b2
    go_wp2_with fail
    cases hen:jy F Ka with
    | error c =>
     rw [hen] at zC
     dsimp only at zC
     have hc1:(c != 0)=true:=by rw [bne_iff_ne];exact Cc hen
     have HX:Hid (dh F ((nE:Int)+1) ((l0,row0)::rest)=.error (l3,c)):=hid (by rw [t_.o,Te.o c hkc hen])
     clear hen p0 p1 p2 p3 p4 x1
     refine zC.o.mono ?_
     rintro e w9 ⟨hb,rfl⟩
     have x9:=(hb.cell (block_lt_of_cell? _ _ x0)).trans x0;have hx9:wr.heap.size < w9.heap.size:=block_lt_of_cell? _ _ x9;have F4:=hid (AJ.o.below (hb.alloc hb.size (.cells #[.string ⟨#[]⟩,.slice none 0 0] 35)));clear hb x0
     go_wp2_with (go_at_call 48;refine (jL _ _ _).mono ?_;rintro e Gi ⟨rfl,hb⟩;have Gj:=hid (F4.o.below hb);clear hb;have q0:=Gj.o.q 0;have q1:=Gj.o.q 1;have q2:=Gj.o.q 2;simp only [List.getElem?_toArray,List.getElem?_cons_zero,List.getElem?_cons_succ] at q0 q1 q2;have z0:=Gj.o.z 0;have z1:=Gj.o.z 1;have z2:=Gj.o.z 2)
     refine bodyPost_ret (v:=.tuple #[.pointer none,.agg #[.int .i64 2,.int .i64 l3,.int .i64 c]]) (by simp [results,Tryz.results18,go_sem,q0,q1,q2];try rfl) rfl ?_
     rw [HX.o]
     exact⟨Gj.o.done _ _ _,rfl⟩
    | ok x =>
     obtain⟨xw,xz⟩:=x
     rw [hen] at zC;dsimp only at zC;have Rb:=hid (Zg.o (xw,xz) hkc hen);have Zh:Hid (xw.size≤64):=hid (AB hen);clear hen p0 p1 p2 p3 p4 x0 x1
     refine zC.o.mono ?_
     rintro e w9 ⟨hb,v,rfl,hfn⟩
     have Zi:=hfn;obtain⟨pv,cv,rfl,hcv,hrw⟩:=Zi;have XC:Below wr.heap.size wr w9:=VY.o.trans (hb.mono VY.o.size);obtain⟨Gi,P7⟩:∃W,w9.alloc (.cells #[.string xw,.slice pv xz.length cv] 35)=W:=⟨_,rfl⟩
     have P8:Below w9.heap.size w9 Gi:=by rw [←P7];exact (Below.refl _ _).alloc (Nat.le_refl _) _
     have Kc:Hid (Gi.heap[w9.heap.size]?=some (.cells #[.string xw,.slice pv xz.length cv] 35 (0,0))):=hid (by rw [←P7];exact heap_alloc_new w9 _)
     have zD:=hid (HD.o.below (XC.trans (P8.mono XC.size)));have M5:=hid (hfn.fs.keep P8);have hs8:=VY.o.size;have hs9:=XC.size;have hkz:=HD.o.kept.size;have hml:=HD.o.mlt;have hwl:=HD.o.UD
     have acu:mb+1 < w9.heap.size:=by omega
     have dL:Hid (∀g o n c,(Value.slice pv xz.length cv)=.slice (some ⟨g,o,none⟩) n c→n≠0→g < Gi.heap.size∧lv.ownBlock≠some g∧(∀s,(hd s).ownBlock≠some g)∧g≠mb∧g≠mb+1):=hid (fun g' o' n' c' e hn=>by
      cases e
      obtain⟨b',off',hp,hge,hH⟩:=hrw.resolve_left hn
      cases hp
      have h9:=block_lt_of_cell? _ _ (hH 0 (by simp;omega)).1
      have h9':g' < w9.heap.size:=h9;have h10:=P8.size
      exact⟨by omega,fun e=>by have:=(iK HD.o.list e).2.1;omega,fun s e=>by have:=(iK (HD.o.found.rows s) e).2.1;omega,by omega,by omega⟩)
     have Ro:∀g,lv.ownBlock=some g→g < w9.heap.size:=fun g e=>by have:=(iK HD.o.list e).2.1;omega
     have Zj:=hid Ro;clear hfn hrw hb Ro
     go_upto_region 22 with fail
     try rw [P7]
     clear P7;obtain⟨Al,cl,rfl⟩:=aF zD.o.list;obtain⟨i0,hi,hz0,hz1,hz2⟩:=info_parts D_;have c0:=zD.o.c0;have z0:=zD.o.z0
     have hxk:xs.length=k:=by have:=Tc.o.1;rw [dz] at this;exact this
     have hxb:xs.length≤65536:=by omega
     have HXk:=hid hxk;clear hxk;have hmw:mb+1 < Gi.heap.size:=block_lt zD.o.words;have Tf:w6.heap.size≤Gi.heap.size:=zD.o.kept.size;have Tg:=block_lt Kc.o
     have IJ:Hid (∀W,Below Gi.heap.size Gi W→W.cell? ⟨w9.heap.size,0,none⟩=some (.string xw)∧W.cell? ⟨w9.heap.size,1,none⟩=some (.slice pv xz.length cv)):=hid (fun W hW=>by
      have h:=(hW.block _ (block_lt Kc.o)).trans Kc.o
      exact⟨by rw [cell_of_heap h];rfl,by rw [cell_of_heap h];rfl⟩)
     go_cut [] from 89 to 98 (fun W=>∃(A':Option Addr) (c':Nat),Hid (DW w6 W mb (mb+1) k (.slice A' (xs.length+1) c') (xs++[(xw,.slice pv xz.length cv,xz)]) hd ix)∧Hid (W.heap[w9.heap.size]?=some (.cells #[.string xw,.slice pv xz.length cv] 35 (0,0))))
     case first =>
      refine wp_region_held_drew (S:=fun W=>W.cell? ⟨w9.heap.size,0,none⟩=some (.string xw)∧W.cell? ⟨w9.heap.size,1,none⟩=some (.slice pv xz.length cv)) (by kernel_rfl) ?_ (fun hHeld=>?_)
      ·exact IJ.o _ ah
      refine aA 0 (some 89) hHeld ?_;try simp only [aj]
      refine aA 1 (some 90) hHeld ?_;try simp only [aj]
      refine aA 2 (some 91) hHeld ?_;try simp only [aj]
      refine aA 3 (some 92) hHeld ?_;try simp only [aj]
      refine aA 5 (some 94) hHeld ?_;try simp only [aj]
      refine wpAnyH_ready (rs:=[4,6]) (by kernel_rfl) (by simp) ?_
      refine AllReadyH.cons rfl (fun K hK=>?_) ?_
      ·go_simp
       refine hK.out _ _ ?_ (fun hHeld=>?_)
       ·first | exact IJ.o _ ah | exact IJ.o _ (ah.alloc (Nat.le_refl _) _) | exact rT.o
       clear hK K
       refine aP 6 (fun K hK=>?_)
       go_simp
       refine hK.out _ _ ?_ (fun hHeld=>?_)
       ·first | exact IJ.o _ ah | exact IJ.o _ (ah.alloc (Nat.le_refl _) _) | exact rT.o
       clear hK K
       refine aP 7 (fun K hK=>?_)
       refine aW (w:=Gi.drew) (by rfl) _ _ 85 (by rfl) w6.heap.size 35 i0 _ 2 40 Tryz.underlying85 hi hz0 hz1 hz2 rfl (by decide) (.slice Al xs.length cl) xs.length (aX xs) (by rfl) (zD.o.below ah).list #[.string xw,.slice pv xz.length cv] (by rfl) (by intro x hx;simp at hx;rcases hx with rfl | rfl<;>rfl) (by rfl) (by unfold maxLen;omega) (by omega) Tf ?_
       intro gg cc Fv hown Gl hloc
       have hD:=zD.o.below (ah (w:=Gi));obtain⟨Gm,M6⟩:=hD.grown Gl
       have Fw:=hid (hD.push (xw,.slice pv xz.length cv,xz) _ (M5.o.keep ah) dL.o hown Gl (hloc.imp id (fun ⟨g,h1,h2,_⟩=>⟨g,h1,h2⟩)))
       have Cg:Fv.heap[w9.heap.size]?=some (.cells #[.string xw,.slice pv xz.length cv] 35 (0,0)):=(M6 _ Tg (fun e=>by have:=Zj.o _ e;omega)).trans Kc.o
       have c11:=cell_of_heap Gm 0;have VB:=frozen_of_heap Gm 0
       simp only [List.getElem?_toArray,List.getElem?_cons_zero] at c11
       have Gn:Hid ((Fv.setCell ⟨mb+1,0,none⟩ (.slice (some ⟨gg,0,none⟩) (xs.length+1) cc)).heap[w9.heap.size]?=some (.cells #[.string xw,.slice pv xz.length cv] 35 (0,0))):=hid (by rw [Below.heap_setCell _ _ _ _ (by simp;omega)];exact Cg)
       have rT:Hid ((Fv.setCell ⟨mb+1,0,none⟩ (.slice (some ⟨gg,0,none⟩) (xs.length+1) cc)).cell? ⟨w9.heap.size,0,none⟩=some (.string xw)∧(Fv.setCell ⟨mb+1,0,none⟩ (.slice (some ⟨gg,0,none⟩) (xs.length+1) cc)).cell? ⟨w9.heap.size,1,none⟩=some (.slice pv xz.length cv)):=hid ⟨by rw [cell_of_heap Gn.o];rfl,by rw [cell_of_heap Gn.o];rfl⟩
       have Ti:Hid (Fv.cell? ⟨w9.heap.size,0,none⟩=some (.string xw)∧Fv.cell? ⟨w9.heap.size,1,none⟩=some (.slice pv xz.length cv)):=hid ⟨by rw [cell_of_heap Cg];rfl,by rw [cell_of_heap Cg];rfl⟩
       clear hown Gl hloc hD Gm M6 Cg
       refine hK.out _ _ ?_ (fun hHeld=>?_)
       ·exact Ti.o
       clear hK K
       refine aA 8 (some 97) hHeld ?_;try simp only [aj]
       refine aA 9 (some 98) hHeld ?_;try simp only [aj]
       refine aP 10 (fun K hK=>?_)
       go_simp
       refine hK.out _ _ ?_ (fun hHeld=>?_)
       ·first | exact IJ.o _ ah | exact IJ.o _ (ah.alloc (Nat.le_refl _) _) | exact rT.o
       clear hK K
       refine wpAnyH_done (by kernel_rfl) ?_ _
       go_wp2_with fail
       go_meet
       exact⟨_,_,Fw,Gn⟩
      refine AllReadyH.cons rfl (fun K hK=>?_) ?_
      ·go_simp
       refine hK.out _ _ ?_ (fun hHeld=>?_)
       ·first | exact IJ.o _ ah | exact IJ.o _ (ah.alloc (Nat.le_refl _) _) | exact rT.o
       clear hK K
       refine aP 4 (fun K hK=>?_)
       go_simp
       refine hK.out _ _ ?_ (fun hHeld=>?_)
       ·first | exact IJ.o _ ah | exact IJ.o _ (ah.alloc (Nat.le_refl _) _) | exact rT.o
       clear hK K
       refine aP 7 (fun K hK=>?_)
       refine aW (w:=Gi.drew) (by rfl) _ _ 85 (by rfl) w6.heap.size 35 i0 _ 2 40 Tryz.underlying85 hi hz0 hz1 hz2 rfl (by decide) (.slice Al xs.length cl) xs.length (aX xs) (by rfl) (zD.o.below ah).list #[.string xw,.slice pv xz.length cv] (by rfl) (by intro x hx;simp at hx;rcases hx with rfl | rfl<;>rfl) (by rfl) (by unfold maxLen;omega) (by omega) Tf ?_
       intro gg cc Fv hown Gl hloc
       have hD:=zD.o.below (ah (w:=Gi));obtain⟨Gm,M6⟩:=hD.grown Gl
       have Fw:=hid (hD.push (xw,.slice pv xz.length cv,xz) _ (M5.o.keep ah) dL.o hown Gl (hloc.imp id (fun ⟨g,h1,h2,_⟩=>⟨g,h1,h2⟩)))
       have Cg:Fv.heap[w9.heap.size]?=some (.cells #[.string xw,.slice pv xz.length cv] 35 (0,0)):=(M6 _ Tg (fun e=>by have:=Zj.o _ e;omega)).trans Kc.o
       have c11:=cell_of_heap Gm 0;have VB:=frozen_of_heap Gm 0
       simp only [List.getElem?_toArray,List.getElem?_cons_zero] at c11
       have Gn:Hid ((Fv.setCell ⟨mb+1,0,none⟩ (.slice (some ⟨gg,0,none⟩) (xs.length+1) cc)).heap[w9.heap.size]?=some (.cells #[.string xw,.slice pv xz.length cv] 35 (0,0))):=hid (by rw [Below.heap_setCell _ _ _ _ (by simp;omega)];exact Cg)
       have rT:Hid ((Fv.setCell ⟨mb+1,0,none⟩ (.slice (some ⟨gg,0,none⟩) (xs.length+1) cc)).cell? ⟨w9.heap.size,0,none⟩=some (.string xw)∧(Fv.setCell ⟨mb+1,0,none⟩ (.slice (some ⟨gg,0,none⟩) (xs.length+1) cc)).cell? ⟨w9.heap.size,1,none⟩=some (.slice pv xz.length cv)):=hid ⟨by rw [cell_of_heap Gn.o];rfl,by rw [cell_of_heap Gn.o];rfl⟩
       have Ti:Hid (Fv.cell? ⟨w9.heap.size,0,none⟩=some (.string xw)∧Fv.cell? ⟨w9.heap.size,1,none⟩=some (.slice pv xz.length cv)):=hid ⟨by rw [cell_of_heap Cg];rfl,by rw [cell_of_heap Cg];rfl⟩
       clear hown Gl hloc hD Gm M6 Cg
       refine hK.out _ _ ?_ (fun hHeld=>?_)
       ·exact Ti.o
       clear hK K
       refine aA 8 (some 97) hHeld ?_;try simp only [aj]
       refine aA 9 (some 98) hHeld ?_;try simp only [aj]
       refine aP 10 (fun K hK=>?_)
       go_simp
       refine hK.out _ _ ?_ (fun hHeld=>?_)
       ·first | exact IJ.o _ ah | exact IJ.o _ (ah.alloc (Nat.le_refl _) _) | exact rT.o
       clear hK K
       refine wpAnyH_done (by kernel_rfl) ?_ _
       go_wp2_with fail
       go_meet
       exact⟨_,_,Fw,Gn⟩
      exact AllReadyH.nil
     case rest =>
     obtain⟨A',c',Fw,XD⟩:=hcut
     obtain⟨zo,V3⟩:∃W:World,W=wc:=⟨_,rfl⟩;rw [←V3] at Fw XD ⊢;clear V3 wc c0 z0 zD Kc IJ M5 dL Zj hmw Tf Tg hi hz0 hz1 hz2 i0 hcv XC P8 hs8 hs9 hxb;obtain⟨i0,hi,hz0,hz1,hz2⟩:=info_parts J_;have hmw:mb+1 < zo.heap.size:=block_lt Fw.o.words;have M7:=block_lt XD.o;have V4:w6.heap.size≤zo.heap.size:=Fw.o.kept.size;have hle:=Fw.o.found.le xw
     have hyn:(hd xw).ownBlock≠some w9.heap.size:=fun e=>by
      obtain⟨-,-,cur,g3⟩:=iK (Fw.o.found.rows xw) e
      rw [XD.o] at g3
      injection g3 with g3
      injection g3 with _ g5 _
      exact absurd g5 (by decide)
     have hwn:(hd xw).ownBlock≠some (mb+1):=fun e=>(Fw.o.apart.2 xw _ e).2.1 rfl
     have OY:=hid (⟨hyn,hwn⟩:_∧_)
     have HLk:Hid (∀W,Below zo.heap.size zo W→(Instr.lookup 134 (.map (some mb)) (.string xw) false).run Tryz.prog W=.ok (hd xw) W):=hid (fun W hW=>(Fw.o.below hW).found.look xw (by have:=Zh.o;unfold maxLen;omega) (by kernel_rfl))
     have acv:=HLk.o zo.drew ah;have hlk2:=HLk.o (zo.drew.alloc (.cells #[.int .i64 (k:Int)] 3)) (ah.alloc (Nat.le_refl _) _);have acw:(Instr.lookup 134 (.map (some mb)) (.string xw) false).run Tryz.prog (zo.alloc (.cells #[.int .i64 (k:Int)] 3)).drew=.ok (hd xw) (zo.alloc (.cells #[.int .i64 (k:Int)] 3)).drew:=hlk2
     have qQ:Hid (∀W:World,(W.heap[mb+1]?=zo.heap[mb+1]?∧W.heap[w9.heap.size]?=zo.heap[w9.heap.size]?)→W.cell? ⟨mb+1,1,none⟩=some (.map (some mb))∧W.cell? ⟨w9.heap.size,0,none⟩=some (.string xw)):=hid (fun W hW=>⟨by rw [cell_of_heap (hW.1.trans Fw.o.words)];rfl,by rw [cell_of_heap (hW.2.trans XD.o)];rfl⟩)
     have Ea:Hid (∀W,Below zo.heap.size zo W→W.cell? ⟨mb+1,1,none⟩=some (.map (some mb))∧W.cell? ⟨w9.heap.size,0,none⟩=some (.string xw)):=hid (fun W hW=>qQ.o W ⟨hW.block _ hmw,hW.block _ M7⟩)
     clear hyn hwn
     go_upto_region 23 with fail
     refine wp_region_held_drew (S:=fun W=>W.cell? ⟨mb+1,1,none⟩=some (.map (some mb))∧W.cell? ⟨w9.heap.size,0,none⟩=some (.string xw)) (by kernel_rfl) ?_ (fun hHeld=>?_)
     ·exact Ea.o _ ah
     refine aA 0 (some 99) hHeld ?_;try simp only [aj]
     refine aA 1 (some 100) hHeld ?_;try simp only [aj]
     refine aA 2 (some 101) hHeld ?_;try simp only [aj]
     refine aA 3 (some 102) hHeld ?_;try simp only [aj]
     refine aA 4 (some 103) hHeld ?_;try simp only [aj]
     refine aA 5 (some 104) hHeld ?_;try simp only [aj]
     refine aA 6 (some 105) hHeld ?_;try simp only [aj]
     refine aA 7 (some 106) hHeld ?_;try simp only [aj]
     refine aA 8 (some 107) hHeld ?_;try simp only [aj]
     refine aA 9 (some 108) hHeld ?_;try simp only [aj]
     refine aA 10 (some 109) hHeld ?_;try simp only [aj]
     refine aA 11 (some 110) hHeld ?_;try simp only [aj]
     refine aA 13 (some 112) hHeld ?_;try simp only [aj]
     refine wpAnyH_ready (rs:=[12,14]) (by kernel_rfl) (by simp) ?_
     refine AllReadyH.cons rfl (fun K hK=>?_) ?_
     ·go_simp
      refine hK.out _ _ ?_ (fun hHeld=>?_)
      ·first | exact Ea.o _ ah | exact Ea.o _ (ah.alloc (Nat.le_refl _) _) | exact iW.o
      clear hK K
      refine aP 14 (fun K hK=>?_)
      go_simp
      refine hK.out _ _ ?_ (fun hHeld=>?_)
      ·first | exact Ea.o _ ah | exact Ea.o _ (ah.alloc (Nat.le_refl _) _) | exact iW.o
      clear hK K
      refine aP 15 (fun K hK=>?_)
      refine aW (w:=zo.drew) (by rfl) _ _ 39 (by rfl) w6.heap.size 3 i0 _ 1 8 Tryz.underlying39 hi hz0 hz1 hz2 rfl (by decide) (hd xw) (ix xw).length ((ix xw).map (Value.int .i64)) (by rfl) ((Fw.o.below ah).found.rows xw) #[.int .i64 (k:Int)] (by rfl) (by intro x hx;simp at hx;subst hx;rfl) (by rfl) (by unfold maxLen;omega) (by omega) V4 ?_
      intro gg cc V5 hown Ch hloc
      obtain⟨Zk,hrun,hDn,hkp⟩:=(Fw.o.below (ah (w:=zo))).store xw (k:Int) _ (by have:=Zh.o;unfold maxLen;omega) (by unfold maxLen;omega) hown Ch (hloc.imp id (fun ⟨g,h1,h2,_⟩=>⟨g,h1,h2⟩))
      have HDn:=hid hDn;have gI:=hid (qQ.o V5 ⟨lD Ch _ hmw OY.o.2,lD Ch _ M7 OY.o.1⟩)
      have iW:=hid (qQ.o Zk ⟨hkp _ hmw OY.o.2 (by omega),hkp _ M7 OY.o.1 (by omega)⟩)
      clear hown Ch hloc hDn hkp
      refine hK.out _ _ ?_ (fun hHeld=>?_)
      ·exact gI.o
      clear hK K
      refine aP 16 (fun K hK=>?_)
      go_simp
      refine hK.out _ _ ?_ (fun hHeld=>?_)
      ·first | exact Ea.o _ ah | exact Ea.o _ (ah.alloc (Nat.le_refl _) _) | exact iW.o
      clear hK K
      refine wpAnyH_done (by kernel_rfl) ?_ _
      go_wp2_with fail
      go_roundw
      case rel=>exact⟨k+1,_,xs++[(xw,.slice pv xz.length cv,xz)],_,_,by omega,by go_num,HDn,hid (by rw [j5];exact Rb.o),hid (by rw [j5];exact HIL.o (xw,xz))⟩
      case measure=>simp [intOf];omega
     refine AllReadyH.cons rfl (fun K hK=>?_) ?_
     ·go_simp
      refine hK.out _ _ ?_ (fun hHeld=>?_)
      ·first | exact Ea.o _ ah | exact Ea.o _ (ah.alloc (Nat.le_refl _) _) | exact iW.o
      clear hK K
      refine aP 12 (fun K hK=>?_)
      go_simp
      refine hK.out _ _ ?_ (fun hHeld=>?_)
      ·first | exact Ea.o _ ah | exact Ea.o _ (ah.alloc (Nat.le_refl _) _) | exact iW.o
      clear hK K
      refine aP 15 (fun K hK=>?_)
      refine aW (w:=zo.drew) (by rfl) _ _ 39 (by rfl) w6.heap.size 3 i0 _ 1 8 Tryz.underlying39 hi hz0 hz1 hz2 rfl (by decide) (hd xw) (ix xw).length ((ix xw).map (Value.int .i64)) (by rfl) ((Fw.o.below ah).found.rows xw) #[.int .i64 (k:Int)] (by rfl) (by intro x hx;simp at hx;subst hx;rfl) (by rfl) (by unfold maxLen;omega) (by omega) V4 ?_
      intro gg cc V5 hown Ch hloc
      obtain⟨Zk,hrun,hDn,hkp⟩:=(Fw.o.below (ah (w:=zo))).store xw (k:Int) _ (by have:=Zh.o;unfold maxLen;omega) (by unfold maxLen;omega) hown Ch (hloc.imp id (fun ⟨g,h1,h2,_⟩=>⟨g,h1,h2⟩))
      have HDn:=hid hDn;have gI:=hid (qQ.o V5 ⟨lD Ch _ hmw OY.o.2,lD Ch _ M7 OY.o.1⟩)
      have iW:=hid (qQ.o Zk ⟨hkp _ hmw OY.o.2 (by omega),hkp _ M7 OY.o.1 (by omega)⟩)
      clear hown Ch hloc hDn hkp
      refine hK.out _ _ ?_ (fun hHeld=>?_)
      ·exact gI.o
      clear hK K
      refine aP 16 (fun K hK=>?_)
      go_simp
      refine hK.out _ _ ?_ (fun hHeld=>?_)
      ·first | exact Ea.o _ ah | exact Ea.o _ (ah.alloc (Nat.le_refl _) _) | exact iW.o
      clear hK K
      refine wpAnyH_done (by kernel_rfl) ?_ _
      go_wp2_with fail
      go_roundw
      case rel=>exact⟨k+1,_,xs++[(xw,.slice pv xz.length cv,xz)],_,_,by omega,by go_num,HDn,hid (by rw [j5];exact Rb.o),hid (by rw [j5];exact HIL.o (xw,xz))⟩
      case measure=>simp [intOf];omega
     exact AllReadyH.nil
   obtain rfl:k=rest.length:=by omega
   have hdone:=Tc.o.done;obtain⟨Al,cl,rfl⟩:=aF HD.o.list;have c0:=HD.o.c0
   have hxl:xs.length=rest.length:=by have:=Tc.o.1;rw [dz] at this;exact this
   have Ta:w.heap.size < w6.heap.size:=by have:=Fu.o.size;omega
   by_cases hlc:(rest.length:Int) < cnt
   ·have HX:Hid (dh F ((nE:Int)+1) ((l0,row0)::rest)=.error ((nE:Int)+1,116)):=hid (by rw [t_.o,hdone];dsimp only;rw [if_pos (by rw [dz,hxl];exact hlc)])
    rw [hxl] at c0;clear hdone
    go_wp2_with (go_at_call 48;refine (jL _ _ _).mono ?_;rintro e w8 ⟨rfl,hb⟩;have AJ:=hid (zx.o.below hb);clear hb;have q0:=AJ.o.q 0;have q1:=AJ.o.q 1;have q2:=AJ.o.q 2;simp only [List.getElem?_toArray,List.getElem?_cons_zero,List.getElem?_cons_succ] at q0 q1 q2;have z0:=AJ.o.z 0;have z1:=AJ.o.z 1;have z2:=AJ.o.z 2)
    refine bodyPost_ret (v:=.tuple #[.pointer none,.agg #[.int .i64 2,.int .i64 ((nE:Int)+1),.int .i64 116]]) (by simp [results,Tryz.results18,go_sem,q0,q1,q2];try rfl) rfl ?_
    rw [HX.o]
    exact⟨AJ.o.done _ _ _,rfl⟩
   have HX:Hid (dh F ((nE:Int)+1) ((l0,row0)::rest)=.ok (dU xs)):=hid (by rw [t_.o,hdone];dsimp only;rw [if_neg (by rw [dz,hxl];exact hlc)])
   have VX:=hid (iH.fin HD.o zx.o Ta (by have:=HR2.o.size;omega) HIX.o)
   rw [hxl] at c0;have q0:=zx.o.q 0;have q1:=zx.o.q 1;have q2:=zx.o.q 2
   simp only [List.getElem?_toArray,List.getElem?_cons_zero,List.getElem?_cons_succ] at q0 q1 q2
   have z0:=zx.o.z 0;have z1:=zx.o.z 1;have z2:=zx.o.z 2;clear hdone
   go_wp2_with fail
   refine bodyPost_ret (v:=.tuple #[.pointer (some ⟨mb+1,0,none⟩),.agg #[.int .i64 0,.int .i64 0,.int .i64 0]]) (by simp [results,Tryz.results18,go_sem,q0,q1,q2];try rfl) rfl ?_
   rw [HX.o]
   exact⟨zx.o.done _ _ _,mb+1,rfl,VX.o _ _ _,by have:=HR2.o.size;omega⟩
  have acy:(hc != 0)=true:=by rw [bne_iff_ne];exact Vb
  have t_:=hid (Y9.o Vb)
  go_wp2_with (go_at_call 48;refine (jL _ _ _).mono ?_;rintro e w4 ⟨rfl,hb⟩;have HR4:=hid (HR3.o.below hb);clear hb;have q0:=HR4.o.q 0;have q1:=HR4.o.q 1;have q2:=HR4.o.q 2;simp only [List.getElem?_toArray,List.getElem?_cons_zero,List.getElem?_cons_succ] at q0 q1 q2;have z0:=HR4.o.z 0;have z1:=HR4.o.z 1;have z2:=HR4.o.z 2)
  refine bodyPost_ret (v:=.tuple #[.pointer none,.agg #[.int .i64 2,.int .i64 l0,.int .i64 hc]]) (by simp [results,Tryz.results18,go_sem,q0,q1,q2];try rfl) rfl ?_
  rw [t_.o]
  exact⟨HR4.o.done _ _ _,rfl⟩
def Eb (w:World) (v:Value) (es:List En):Prop:=∃xs:List ug,dU xs=es∧Rd w 2 v xs.length (aX xs)∧∀x∈xs,IS w x.2.1 x.2.2
theorem Eb.keep {w w':World} {v:Value} {es:List En} (h:Eb w v es) (hb:Below w.heap.size w w'):Eb w' v es:=by
 obtain⟨xs,h1,h2,h3⟩:=h
 exact⟨xs,h1,h2.keep hb,fun x hx=>(h3 x hx).keep hb⟩
def Zl (r:Except (Int×Int) (List En)) (w:World) (e:Ending) (w':World):Prop:=Below w.heap.size w w'∧match r with
 | .error p=>e=.returned (.tuple #[.slice none 0 0,.int .i64 p.1,.int .i64 p.2])
 | .ok es=>∃v,e=.returned (.tuple #[v,.int .i64 0,.int .i64 0])∧Eb w' v es
def Ec (v:Value):List Nat:=match v.ownBlock with
 | some g=>[g]
 | none=>[]
theorem yg {v:Value} {g:Nat}:g∈Ec v↔v.ownBlock=some g:=by
 unfold Ec
 cases v.ownBlock with
 | none=>simp
 | some g'=>simp [eq_comm]
theorem IO.grow {w w':World} {v v' u:Value} {zs:List Int} (h:IO w (Ec v) u zs) (hg:w.grownBy w' v.ownBlock) (hl:v'.ownBlock=v.ownBlock∨∃g,v'.ownBlock=some g∧w.heap.size≤g):IO w' (Ec v') u zs:=by
 obtain⟨p,c,hv,hc,h2⟩:=h
 refine⟨p,c,hv,hc,?_⟩
 rcases Nat.eq_zero_or_pos zs.length with h0 | h0
 ·exact .inl h0
 obtain⟨b,off,hp,hL,h3⟩:=h2.resolve_left (by omega)
 have hlt:b < w.heap.size:=block_lt_of_cell? _ _ (h3 0 h0);rw [yg] at hL
 refine .inr ⟨b,off,hp,fun hm=>?_,fun j hj=>?_⟩
 ·rw [yg] at hm
  rcases hl with e | ⟨g,e,hge⟩
  ·rw [e] at hm;exact hL hm
  rw [e] at hm;cases hm;omega
 exact (World.cell?_of_block (lD hg b hlt hL)).trans (h3 j hj)
theorem Ke:(Tryz.prog.info? 54).map (fun i=>(i.zero,i.size,i.bytes))=some (some (.agg #[.string ByteArray.empty,.slice none 0 0]),2,40):=by kernel_rfl
theorem vE (rf:Nat) (F:Fl) (s:ByteArray) (w:World) (hf:fB w rf F) (hok:iU F) :
  Calls Tryz.prog 72 #[.pointer (some ⟨rf,0,none⟩),.string s] w (Zl (mg F s.data.toList) w):=by
 obtain⟨i0,hi,hz0,hz1,hz2⟩:=info_parts Ke
 have iG:=hid (wY s w)
 by_cases hbig:65536 < s.size
 ·have HX:Hid (mg F s.data.toList=.error (0,10)):=hid (by rw [mg,if_pos (by rw [ak];exact hbig)])
  unfold jB at iG;rw [if_pos hbig] at iG;rw [HX.o];clear HX hbig hi hz0 hz1 hz2 i0
  go_enter Tryz.func72,Tryz.ntmps72
  go_wp2_with (go_at_call 97;refine iG.o.mono ?_;rintro e w1 ⟨v,rs,rfl,how,hrr,habs⟩;have HB1:=hid how.below;clear how hrr habs)
  go_ret3
  exact⟨HB1.o,rfl⟩
 have hcode:jB s=0:=by unfold jB;rw [if_neg hbig]
 rw [hcode] at iG
 have HL:Hid (∀W,Calls Tryz.prog 98 #[.string s] W fun e w'=>∃v,e=.returned v∧Own W w' 9 1 v (aV s.data.toList).length (bn ((aV s.data.toList).map mkS))):=hid (fun W=>oV s W (by omega))
 have hx:mg F s.data.toList=dh F ((aV s.data.toList).length+1) (rowsOf (aC s.data.toList)):=by rw [mg,if_neg (by rw [ak];exact hbig)]
 rw [hx];obtain⟨nE,Fh⟩:∃n,(aV s.data.toList).length=n:=⟨_,rfl⟩
 have Sw:nE≤65536:=by
  have:=gZ s.data.toList
  rw [aC,if_neg (by rw [ak];exact hbig),iq,Fh] at this
  exact this
 have hbd:=Ce s.data.toList;have hle:=wL s.data.toList;rw [Fh] at HL ⊢;obtain⟨all,hall⟩:∃l,rowsOf (aC s.data.toList)=l:=⟨_,rfl⟩;rw [hall] at iG hbd hle ⊢
 have hwr:IntKind.i64.wrap ((nE:Int)+1)=(nE:Int)+1:=by rw [IntKind.wrap_i64];omega
 have zy:=hid hbd;have HF:=hid hf;have jr:=hid hok;clear Fh hcode hbig hx hall hbd hf hok
 go_enter Tryz.func72,Tryz.ntmps72
 go_upto_region 4 with (go_at_call 97;refine iG.o.mono ?_;rintro e w1 ⟨v,rs,rfl,how,hrr,habs⟩;have qA:=hid how;have zx:=hid hrr;have rM:=hid habs;clear how hrr habs)
 obtain⟨Av,PE,rfl⟩:=aF qA.o.own
 have hrl:rs.length=all.length:=by have h:=congrArg List.length rM.o;simpa [dP] using h
 rw [hrl];obtain⟨N,hN⟩:∃n,all.length=n:=⟨_,rfl⟩
 have SV:Hid (gB w1 (.slice Av N PE) all):=hid ⟨rs,rM.o,by rw [←hN,←hrl];exact Rd.aN qA.o.own,zx.o⟩
 have HB1:=hid qA.o.below;rw [hN] at hle ⊢;have HN:=hid hN;clear hrl hN qA zx rM iG
 go_upto_region 5 with (go_at_call 98;refine (HL.o _).mono ?_;rintro e w2 ⟨v2,rfl,xQ⟩;obtain⟨A2,cp2,rfl⟩:=aF xQ.own;have HB2:=hid (HB1.o.trans (xQ.below.mono HB1.o.size));have Tj:=hid (SV.o.VR xQ.below);clear xQ)
 clear SV HL
 cases all with
 | nil =>
  obtain rfl:N=0:=HN.o.symm
  go_wp2_with fail
  go_ret3
  exact⟨HB2.o,rfl⟩
 | cons r0 rest =>
  obtain⟨l0,row0⟩:=r0
  have hNr:N=rest.length+1:=by rw [←HN.o];rfl
  subst hNr
  obtain⟨g,o,fv,rfl,c0,c1,hrd⟩:=tH Tj.o (a:=0) (by simp)
  simp only [List.getElem_cons_zero,Nat.zero_mul,Nat.add_zero] at c0 c1 hrd;obtain⟨-,A0,cp0,rfl,hcap0,hcells0⟩:=hrd;have hb0:=zy.o _ (List.mem_cons_self ..);have hgl:=block_lt_of_cell? _ _ c0
  have hn0:((rest.length:Int)+1==0)=false:=by rw [beq_eq_false_iff_ne];omega
  obtain⟨M,hM⟩:∃M,rest.length+1=M:=⟨_,rfl⟩
  have hn1:((M:Int)==0)=false:=by rw [beq_eq_false_iff_ne];omega
  have hM1:0 < M:=by omega
  rw [hM] at hle Tj ⊢;have tu:=hid hM;clear hn0 hM HN
  by_cases h1:row0.length=1
  ·have hx0:(bn row0)[0]?=some (.string (fieldAt row0 0)):=by
    match row0,h1 with
    | [f],_=>rfl
   obtain⟨g1,o1,rfl,hc1⟩:=hcells0.resolve_left (by omega)
   have e1:=hc1 0 _ hx0;rw [Nat.add_zero] at e1
   have hfs:(fieldAt row0 0).size≤65536:=by
    match row0,h1,hb0 with
    | [f],_,hb0=>exact hb0.2.2.1 f (by simp)
   have XE:=hid (fH (fieldAt row0 0) 8192 w2 (by unfold maxLen;omega) (by omega) (by omega))
   have hcb:=dJ (fieldAt row0 0).data.toList 8192 (by decide)
   have hX:dh F ((nE:Int)+1) ((l0,row0)::rest)=if bI (fieldAt row0 0).data.toList 8192≠0 then .error (l0,13) else match vS F (aJ (fieldAt row0 0).data.toList 8192) 0 rest with
    | .error p=>.error p
    | .ok xs=>if (xs.length:Int) < aJ (fieldAt row0 0).data.toList 8192 then .error ((nE:Int)+1,116) else .ok xs:=by
    rw [dh,if_neg (by omega)]
    rfl
   unfold dw at XE;rw [h1] at c1 hcap0;have hne:=dK (fieldAt row0 0).data.toList 8192;obtain⟨cnt,hcnt⟩:∃c,aJ (fieldAt row0 0).data.toList 8192=c:=⟨_,rfl⟩;obtain⟨ne,Tk⟩:∃c,bI (fieldAt row0 0).data.toList 8192=c:=⟨_,rfl⟩;rw [hcnt,Tk] at XE hX;rw [hcnt] at hcb;rw [Tk] at hne
   generalize fieldAt row0 0=f0 at *
   have HX0:=hid hX;clear hcells0 hc1 hx0 hb0 hfs hX hcnt Tk h1
   rcases hne with rfl | rfl
   ·have fV:=hid (HX0.o.trans (if_neg (by simp)))
    have zC:Hid (∀(L:List Nat) W fv row,Below w.heap.size w W→(∀x∈L,w.heap.size≤x∧x < W.heap.size)→Rd W 1 fv row.length (bn row)→(∀j,(fieldAt row j).size≤65536)→row.length≤9223372036854775807→Calls Tryz.prog 104 #[.pointer (some ⟨rf,0,none⟩),fv] W (PY L (jy F row) W)):=hid (fun L W fv row hW hL hr hs hn=>J8 L w rf F fv row W HF.o hW hL jr.o hr hs hn)
    have hs2:=HB2.o.size
    go_wp2_with (go_at_call 103;refine XE.o.mono ?_;rintro e w3 ⟨rfl,rfl⟩)
    go_loopw [11,12,13,14] (fun v x _ _ wr=>∃(k j:Nat) (xs:List ug),Hid (j=k+1)∧j≤M∧x=.int .i64 j∧(k:Int)≤cnt∧Hid (wr.ownsRow w2.heap.size 54 2 v xs.length (aX xs))∧Hid (∀x∈xs,IO wr (Ec v) x.2.1 x.2.2)∧Hid (lu F cnt rest k (dU xs))∧Hid (Below w2.heap.size w2 wr)) (fun _ x _ _ _=>M - (intOf x).toNat)
    case atStart=>exact⟨0,1,[],hid rfl,by omega,rfl,hcb.1,hid (World.ownsRow_nil _ _ _ _),hid (fun x hx=>(List.not_mem_nil hx).elim),hid (lu.start _ _ _),hid (Below.refl _ _)⟩
    case round =>
    obtain⟨k,j,xs,HJ,hj,rfl,hkc,HO,HI,HD,sw⟩:=hrel
    by_cases hlt:j < M
    ·have hkr:k < rest.length:=by have:=HJ.o;have:=tu.o;omega
     obtain⟨g',o',fv,hA,c0',c1',hrd⟩:=tH Tj.o (a:=j) (by have:=tu.o;simp;omega)
     cases hA
     have hje:j=k+1:=HJ.o
     have hrj:((l0,row0)::rest)[j]'(by have:=tu.o;simp;omega)=rest[k]:=by subst hje;simp
     rw [hrj] at c0' hrd;have hb:=zy.o rest[k] (List.mem_cons_of_mem _ (List.getElem_mem hkr));have e0:=(sw.o.cell (block_lt_of_cell? _ _ c0')).trans c0';have e1':=(sw.o.cell (block_lt_of_cell? _ _ c1')).trans c1';have P9:=hrd.keep sw.o
     have hjM:(j:Int) < (M:Int):=by omega
     have M8:=fun h=>HD.o.many hkr h
     have hbad:=fun h {c:Int} he=>HD.o.bad hkr h (c:=c) he
     have hmore:=fun h {x:En} he=>HD.o.more hkr h (x:=x) he
     have hfs:∀i,(fieldAt rest[k].2 i).size≤65536:=fun i=>by
      unfold fieldAt
      rw [List.getD_eq_getElem?_getD]
      rcases Nat.lt_or_ge i rest[k].2.length with hl | hl
      ·rw [List.getElem?_eq_getElem hl];exact hb.2.2.1 _ (List.getElem_mem hl)
      rw [List.getElem?_eq_none hl];exact Nat.zero_le _
     have hfl:=hb.2.1;obtain⟨r,hr⟩:∃r,rest[k]=r:=⟨_,rfl⟩;obtain⟨ln,row⟩:=r;rw [hr] at e0 P9 hfs hfl;simp only [hr] at M8 hbad hmore;dsimp only at e0 e1' P9 hfs hfl;have V6:=hid M8;have mX:=hid hbad;have V7:=hid hmore;have O8:=hid P9;have AO:=hid hfs;obtain⟨-,Af,cpf,rfl,-,-⟩:=P9;clear c0' c1' hrd hrj hb hr M8 hbad hmore hfs hje
     by_cases hkeq:(k:Int)=cnt
     ·have hgt:(cnt:Int) < (j:Int):=by have:=HJ.o;omega
      have HX:=hid (V6.o hkeq);clear hkeq
      go_wp2_with fail
      go_quiet (fail)
      go_wp2_with fail
      go_ret3
      exact⟨below_drewN (HB2.o.trans (sw.o.mono hs2)) _,by rw [fV.o,HX.o];rfl⟩
     have hgt:¬(cnt:Int) < (j:Int):=by have:=HJ.o;omega
     have Ph:=sw.o.size
     have hEq:=zC.o (Ec u11) wr (.slice Af row.length cpf) row (HB2.o.trans (sw.o.mono hs2)) (fun x hx=>by rw [yg] at hx;have h1:=iK HO.o hx;exact⟨Nat.le_trans hs2 h1.1,h1.2.1⟩) O8.o AO.o (by omega)
     cases hen:jy F row with
     | error c =>
      have hc:=Cc hen
      have hc1:(c != 0)=true:=by rw [bne_iff_ne];exact hc
      have HX:=hid (mX.o hkeq hen);rw [hen] at hEq;unfold PY at hEq;dsimp only at hEq;have HEq:=hid hEq;clear hEq hen hc hkeq;have hgr:g < wr.heap.size:=block_lt_of_cell? _ _ e0
      go_wp2_with (go_at_call 104;refine HEq.o.mono ?_;rintro e w5 ⟨hb5,rfl⟩;have jK:=hid (sw.o.trans (hb5.mono Ph));have e5:=(hb5.cell (p:=⟨g,o+j*2,none⟩) hgr).trans e0;have hg5:g < w5.heap.size:=Nat.lt_of_lt_of_le hgr hb5.size;clear hb5)
      go_quiet (fail)
      go_wp2_with fail
      go_ret3
      have hB6:=jK.o.alloc jK.o.size (.cells #[.string ⟨#[]⟩,.slice none 0 0] 54)
      exact⟨below_drewN (HB2.o.trans (hB6.mono hs2)) _,by rw [fV.o,HX.o];rfl⟩
     | ok x =>
      have HX:=hid (V7.o hkeq hen)
      rw [hen] at hEq;unfold PY at hEq;dsimp only at hEq;obtain⟨s,zs⟩:=x;dsimp only at hEq;have HEq:=hid hEq
      have VZ:(k:Int)+1≤cnt:=by omega
      clear hEq hen hkeq
      go_upto_region 21 with (go_at_call 104;refine HEq.o.mono ?_;rintro e w5 ⟨hb5,v5,rfl,Jp⟩;obtain⟨p5,c5,rfl⟩:∃p c,v5=.slice p zs.length c:=(by obtain⟨p,c,hv,-⟩:=Jp;exact⟨p,c,hv⟩);have hba:=hb5.alloc hb5.size (.cells #[.string s,.slice p5 zs.length c5] 54);have P_:=hid (sw.o.trans (hba.mono Ph));have Zm:=hid (own_below HO.o hba);have HIa:Hid (∀x∈xs,IO (w5.alloc (.cells #[.string s,.slice p5 zs.length c5] 54)) (Ec u11) x.2.1 x.2.2):=hid (fun x hx=>(HI.o x hx).later hba);have oG:=hid (Jp.later ((Below.refl _ _).alloc (Nat.le_refl _) (.cells #[.string s,.slice p5 zs.length c5] 54)));clear hb5 hba Jp)
      have z0:=cell_of_heap (heap_alloc_new w5 (.cells #[.string s,.slice p5 zs.length c5] 54)) 0;have z1:=cell_of_heap (heap_alloc_new w5 (.cells #[.string s,.slice p5 zs.length c5] 54)) 1
      simp only [List.getElem?_toArray,List.getElem?_cons_zero,List.getElem?_cons_succ] at z0 z1
      obtain⟨wE,VJ⟩:∃W,w5.alloc (.cells #[.string s,.slice p5 zs.length c5] 54)=W:=⟨_,rfl⟩;rw [VJ] at P_ Zm HIa oG z0 z1 ⊢;have hsa:=P_.o.size;clear VJ
      go_wp2_with (at_builtin;refine kN rfl _ _ 50 rfl w2.heap.size 54 i0 (.agg #[.string ByteArray.empty,.slice none 0 0]) 2 40 Tryz.underlying50 hi hz0 hz1 hz2 rfl (by decide) _ xs.length _ rfl Zm.o #[.string s,.slice p5 zs.length c5] rfl ?one rfl ?c3 ?c4 hsa ?_)
      case one=>exact⟨rfl,rfl⟩
      case c3=>have:=HD.o.1;rw [dz] at this;unfold maxLen;omega
      case c4=>have:=HD.o.1;rw [dz] at this;omega
      intro gg cap w7 hown hg hloc
      have XF:(Value.slice (some ⟨gg,0,none⟩) (xs.length+1) cap).ownBlock=u11.ownBlock∨∃g,(Value.slice (some ⟨gg,0,none⟩) (xs.length+1) cap).ownBlock=some g∧wE.heap.size≤g:=by
       rcases hloc with h | ⟨g,h1,h2,-⟩
       ·exact .inl h
       exact .inr ⟨g,h1,h2⟩
      have Ed:Hid (w7.ownsRow w2.heap.size 54 2 (.slice (some ⟨gg,0,none⟩) (xs.length+1) cap) (xs++[(s,Value.slice p5 zs.length c5,zs)]).length (aX (xs++[(s,Value.slice p5 zs.length c5,zs)]))):=hid (by
       rw [List.length_append,←qY];exact hown)
      have HI7:Hid (∀y∈xs++[(s,Value.slice p5 zs.length c5,zs)],IO w7 (Ec (.slice (some ⟨gg,0,none⟩) (xs.length+1) cap)) y.2.1 y.2.2):=hid (fun y hy=>by
       rcases List.mem_append.1 hy with hy | hy
       ·exact (HIa.o y hy).grow hg XF
       simp only [List.mem_singleton] at hy;subst hy;exact oG.o.grow hg XF)
      have sj:=hid (jG P_.o Zm.o hg (Nat.le_refl _) hsa);clear hown hg hloc XF
      go_wp2
      go_roundw
      case rel=>exact⟨k+1,j+1,_,hid (by rw [HJ.o]),by omega,by go_num,by omega,Ed,HI7,hid (by rw [j5];exact HX.o),sj⟩
      case measure=>simp [intOf];omega
    obtain rfl:j=M:=by omega
    have hkr:k=rest.length:=by have:=HJ.o;have:=tu.o;omega
    subst hkr
    have hdone:=HD.o.done;have hB:=HB2.o.trans (sw.o.mono hs2);obtain⟨Av,cv,rfl⟩:=aF HO.o
    by_cases hlc:(xs.length:Int) < cnt
    ·have HX:Hid (dh F ((nE:Int)+1) ((l0,row0)::rest)=.error ((nE:Int)+1,116)):=hid (by rw [fV.o,hdone];dsimp only;rw [if_pos (by rw [dz];exact hlc)])
     have V8:=hid hB;clear hdone hB
     go_wp2_with fail
     go_ret3
     exact⟨V8.o,by rw [HX.o];rfl⟩
    have HX:Hid (dh F ((nE:Int)+1) ((l0,row0)::rest)=.ok (dU xs)):=hid (by rw [fV.o,hdone];dsimp only;rw [if_neg (by rw [dz];exact hlc)])
    have V8:=hid hB;clear hdone hB
    go_wp2_with fail
    go_ret3
    refine⟨V8.o,?_⟩
    rw [HX.o]
    exact⟨_,rfl,xs,rfl,Rd.aN HO.o,fun x hx=>(HI.o x hx).is⟩
   have fV:=hid (HX0.o.trans (if_pos (by simp)))
   go_wp2_with (go_at_call 103;refine XE.o.mono ?_;rintro e w3 ⟨rfl,rfl⟩)
   go_quiet (fail)
   go_wp2_with fail
   go_ret3
   exact⟨below_drewN HB2.o _,by rw [fV.o];rfl⟩
  have hne1:((row0.length:Int) != 1)=true:=by rw [bne_iff_ne];omega
  have hX:dh F ((nE:Int)+1) ((l0,row0)::rest)=.error (l0,111):=by rw [dh,if_pos h1]
  have fV:=hid hX;clear hX hcells0
  go_wp2_with fail
  go_quiet (fail)
  go_wp2_with fail
  go_ret3
  exact⟨below_drewN HB2.o _,by rw [fV.o];rfl⟩
theorem Ee (v:Value) (n:Nat) (xs:List Value) (w:World) (h:Rd w 2 v n xs) (h1:∀u∈xs,u.oneCell'=true) (hn:n≤65536) :
  Calls Tryz.prog 66 #[v] w fun e w'=>∃v',e=.returned v'∧Own w w' 35 2 v' n xs:=by
 obtain⟨hl,p,c,rfl,hcap,hs⟩:=h
 obtain⟨i0,hi,hz0,hz1,hz2⟩:=info_parts D_
 have qn:∀(w:World) (a:Option Addr) (n c n' c':Nat),(binOp .eql 85 (.slice a n c) (.slice none n' c')).run Tryz.prog w=.ok (.bool a.isNone) w:=fun w a n c n' c'=>run_eql_slice_nil w _ _ a n c n' c' Tryz.underlying85
 have hS:=hid hs;have HL:=hid hl;clear hs hl
 cases p with
 | none =>
  have h0:n=0:=hS.out.resolve_right (by rintro⟨b,off,hp,_⟩;cases hp)
  clear hS
  subst h0
  have hx:Hid (xs=[]):=hid (List.eq_nil_of_length_eq_zero (by rw [HL.o,Nat.zero_mul]))
  go_enter Tryz.func66,Tryz.ntmps66
  go_wp2
  go_ret
  exact⟨_,rfl,by rw [hx.out];exact Own.fP _ _ _⟩
 | some ad =>
  have hr:=eF (P:=Tryz.prog) (w.alloc (.cells #[] 35)) w.heap.size 85 85 35 i0 (.agg #[.string ByteArray.empty,.slice none 0 0]) 2 40 Tryz.underlying85 hi hz0 hz1 hz2 rfl (by decide) _ 0 [] (World.ownsRow_made w #[] 0 (Nat.le_refl _) (Nat.zero_le _) rfl)
   (some ad) n c xs HL.o (sZ hS.out HL.o ((Below.refl _ w).alloc (Nat.le_refl _) _)) h1 (by unfold maxLen;omega) (by omega) (by simp)
  obtain⟨v',w1,hrun,hown,hg,-⟩:=hr;rw [Nat.zero_add,List.nil_append] at hown;have HR:=hid hrun;have HO:=hid hown;have HG:=hid hg;clear hrun hown hg hS
  go_enter Tryz.func66,Tryz.ntmps66
  go_wp2_with (at_builtin;refine wpList_append_run _ rfl _ _ _ _ rfl _ _ rfl rfl _ _ HR.o ?_)
  go_ret
  refine⟨v',rfl,⟨?_,HO.o⟩⟩
  exact ((Below.refl _ w).alloc (Nat.le_refl _) _).grown HG.o (by simp) (by intro g hg;simp [Value.ownBlock] at hg;omega)
def mY (cls:List Cl) (rls:List Rl):Prop :=
 (∀c∈cls,0≤c.first∧0≤c.count∧c.first+c.count≤rls.length∧∀(n:Nat) (h:n < rls.length),c.first≤n→(n:Int) < c.first+c.count→rls[n].flag=c.flag∧rls[n].kind=c.kind) ∧
 ∀(n:Nat) (h:n < rls.length),∃c,cls.find? (fun c=>c.flag==rls[n].flag)=some c∧c.first≤n∧(n:Int) < c.first+c.count
theorem mY.nil:mY [] []:=⟨fun c hc=>(List.not_mem_nil hc).elim,fun n h=>(Nat.not_lt_zero n h).elim⟩
theorem mY.push {cls:List Cl} {rls new:List Rl} {c:Cl} (h:mY cls rls) (hf:cls.find? (fun d=>d.flag==c.flag)=none) (h1:c.first=rls.length) (h2:c.count=new.length) (hn:∀r∈new,r.flag=c.flag∧r.kind=c.kind):mY (cls++[c]) (rls++new):=by
 have key:∀(n:Nat) (hn':n < (rls++new).length),rls.length≤n→(rls++new)[n].flag=c.flag∧(rls++new)[n].kind=c.kind:=fun n hn' hle=>by
  rw [List.getElem_append_right hle]
  exact hn _ (List.getElem_mem _)
 constructor
 ·intro d hd
  rcases List.mem_append.1 hd with hd | hd
  ·obtain⟨a,b,e,f⟩:=h.1 d hd
   refine⟨a,b,by rw [List.length_append];push_cast;omega,fun n hn' hl hr=>?_⟩
   have hlt:n < rls.length:=by omega
   rw [List.getElem_append_left hlt]
   exact f n hlt hl hr
  simp at hd
  subst hd
  refine⟨by rw [h1];omega,by rw [h2];omega,by rw [h1,h2,List.length_append];push_cast;omega,fun n hn' hl hr=>key n hn' (by rw [h1] at hl;omega)⟩
 intro n hn'
 by_cases hlt:n < rls.length
 ·obtain⟨d,hd,a,b⟩:=h.2 n hlt
  refine⟨d,?_,a,b⟩
  rw [List.getElem_append_left hlt,List.find?_append,hd]
  rfl
 have hk:=key n hn' (by omega)
 refine⟨c,?_,by rw [h1];omega,by rw [h1,h2];rw [List.length_append] at hn';omega⟩
 rw [hk.1,List.find?_append,hf]
 simp
def NzF (aI:List (List Int)) (rls:List Rl):Prop:=(∀a∈aI,(0:Int)∉a)∧∀r∈rls,(0:Int)∉r.next
theorem Ef (kind:Int) (l:List UInt8):(0:Int)∉(bS kind l).1:=by
 unfold bS
 split
 ·simp
 split
 ·simp
 split
 ·simp
 split
 ·simp
 rename_i h _
 intro hm
 rw [eU] at hm
 exact h (by simpa using hm)
theorem AP (F:Fl) (s:ByteArray) (h:∀a∈F.aI,(0:Int)∉a):(0:Int)∉(aQ F s).1:=by
 unfold aQ
 split
 ·exact Ef _ _
 split
 ·simp
 rw [List.getD_eq_getElem?_getD]
 rcases Nat.lt_or_ge (aJ s.data.toList F.aI.length - 1).toNat F.aI.length with hl | hl
 ·rw [List.getElem?_eq_getElem hl];exact h _ (List.getElem_mem hl)
 rw [List.getElem?_eq_none hl];simp
theorem M9 {F:Fl} {c:Cl} {line:Int} {row:List ByteArray} {r:Rl} (h:bK F c line row=.ok r) (ha:∀a∈F.aI,(0:Int)∉a):(r.flag=c.flag∧r.kind=c.kind)∧(0:Int)∉r.next:=by
 unfold bK at h
 split at h
 ·cases h
 split at h
 ·cases h
 split at h
 split at h
 ·cases h
 split at h
 ·cases h
 split at h
 ·cases h
 rename_i hn
 split at h
 ·cases h
 cases h
 refine⟨⟨rfl,rfl⟩,?_⟩
 show (0:Int)∉_
 unfold nextR at hn
 split at hn
 ·split at hn
  ·cases hn
  split at hn
  ·cases hn
  cases hn;exact AP F _ ha
 cases hn;simp
theorem vF {end_:Int} {ok:List ByteArray→Bool} {c:Cl}:∀(n:Nat) (S S':Sx),(∀a∈S.fl.aI,(0:Int)∉a)→aO end_ ok (bZ c) n S=.ok S' →
  ∃new,S'.fl={ S.fl with rls:=S.fl.rls++new }∧new.length=n∧∀r∈new,(r.flag=c.flag∧r.kind=c.kind)∧(0:Int)∉r.next
 | 0,S,S',_,h=>by rw [aO] at h;cases h;exact⟨[],by simp,rfl,fun r hr=>by cases hr⟩
 | n+1,S,S',ha,h=>by
   rw [aO] at h
   split at h
   ·cases h
   ·split at h
    ·split at h
     ·cases h
     ·rename_i hF
      unfold bZ at hF
      split at hF
      ·cases hF
      ·rename_i x hx
       cases hF
       obtain⟨new,h1,h2,h3⟩:=vF n _ S' (by exact ha) h
       refine⟨x::new,by rw [h1];simp,by rw [List.length_cons,h2],fun r hr=>?_⟩
       rcases List.mem_cons.1 hr with rfl | hr
       ·exact M9 hx ha
       ·exact h3 r hr
    ·cases h
def fA (F:Fl):Prop:=mY F.cls F.rls∧NzF F.aI F.rls
theorem yh {end_:Int} {ok:List ByteArray→Bool} {inn:Fl→Int→List ByteArray→Except Int Fl} (hi:∀F l r F',fA F→inn F l r=.ok F'→fA F'):∀(n:Nat) (S S':Sx),fA S.fl→aO end_ ok inn n S=.ok S'→fA S'.fl
 | 0,S,S',h0,h=>by rw [aO] at h;cases h;exact h0
 | n+1,S,S',h0,h=>by
   rw [aO] at h
   split at h
   ·cases h
   ·split at h
    ·split at h
     ·cases h
     ·rename_i hF
      exact yh hi n _ S' (hi _ _ _ _ h0 hF) h
    ·cases h
theorem Tn (F:Fl) (l:Int) (r:List ByteArray) (F':Fl) (h0:fA F) (h:gV F l r=.ok F'):fA F':=by
 unfold gV at h
 split at h
 ·cases h
 split at h
 ·cases h
 split at h
 ·cases h
 cases h;exact h0
theorem M_ (F:Fl) (l:Int) (r:List ByteArray) (F':Fl) (h0:fA F) (h:eT F l r=.ok F'):fA F':=by
 unfold eT at h
 split at h
 ·cases h
 split at h
 ·cases h
 cases h
 refine⟨h0.1,fun a ha=>?_,h0.2.2⟩
 rcases List.mem_append.1 ha with ha | ha
 ·exact h0.2.1 a ha
 simp at ha;subst ha;exact Ef _ _
theorem Gp (F:Fl) (i:Nat) (f:Int):(eG F i f).cls=F.cls∧(eG F i f).rls=F.rls∧(eG F i f).aI=F.aI:=by unfold eG;split<;>exact⟨rfl,rfl,rfl⟩
theorem Qa {end_:Int} {S S':Sx} {row:List ByteArray} {k:Nat} (h0:fA S.fl) (h:iy end_ S row k=.ok S'):fA S'.fl:=by
 unfold iy at h
 split at h
 ·obtain⟨F,hF,rfl⟩:=jh h
  unfold kL at hF
  split at hF
  ·cases hF
  split at hF
  ·cases hF
  cases hF;exact h0
 split at h
 ·obtain⟨F,hF,rfl⟩:=jh h
  unfold oW at hF
  split at hF
  ·cases hF
  cases hF;exact h0
 split at h
 ·obtain⟨F,hF,rfl⟩:=jh h
  unfold xO at hF
  split at hF
  ·cases hF
  cases hF;exact h0
 split at h
 ·obtain⟨F,hF,rfl⟩:=jh h
  unfold gX at hF
  split at hF
  ·cases hF
  cases hF
  show fA (eG _ _ _)
  unfold fA;obtain⟨e1,e2,e3⟩:=Gp S.fl (k - 3) ‹_›;rw [e1,e2,e3]
  exact h0
 split at h
 ·obtain⟨F,hF,rfl⟩:=jh h
  unfold jI at hF
  split at hF
  ·cases hF
  cases hF;exact h0
 split at h
 ·unfold nW at h
  split at h
  ·cases h
  exact yh Tn _ _ _ h0 h
 split at h
 ·unfold jf at h
  split at h
  ·cases h
  split at h
  ·cases h
  exact yh M_ _ _ _ h0 h
 unfold fK at h
 split at h
 ·cases h
 rename_i f hf
 obtain⟨-,-,-,hd⟩:=qw hf
 split at h
 ·cases h
 split at h
 ·cases h
 split at h
 ·cases h
 have hb:=(dJ (fieldAt row 3).data.toList 1024 (by decide)).1
 obtain⟨new,h1,h2,h3⟩:=vF _ _ _ (by exact h0.2.1) h
 rw [h1]
 refine⟨h0.1.push ?_ rfl ?_ (fun r hr=>(h3 r hr).1),h0.2.1,fun r hr=>?_⟩
 ·exact yj hd
 ·show aJ (fieldAt row 3).data.toList 1024=_
  rw [h2];omega
 rcases List.mem_append.1 hr with hr | hr
 ·exact h0.2.2 r hr
 exact (h3 r hr).2
theorem IK {end_:Int}:∀(n:Nat) (S S':Sx),fA S.fl→dS end_ n S=.ok S'→fA S'.fl
 | 0,S,S',h0,h=>by rw [dS] at h;cases h;exact h0
 | n+1,S,S',h0,h=>by
   rw [dS] at h
   split at h
   ·cases h;exact h0
   ·split at h
    ·cases h
    ·rename_i hs
     refine IK n _ S' ?_ h
     unfold iN at hs
     split at hs
     ·cases hs
     split at hs
     ·cases hs
     split at hs
     ·cases hs
     split at hs
     ·cases hs
     ·rename_i S3 hh
      cases hs
      have h2:fA S3.fl:=Qa (by exact h0) hh
      exact h2
theorem Qb {t:List UInt8} {F:Fl} (h:gY t=.ok F):fA F:=by
 unfold gY at h
 split at h
 ·cases h
 split at h
 ·cases h
 rename_i S hr
 split at h
 ·cases h
 cases h
 exact IK _ _ _ (show fA wK from⟨mY.nil,fun a ha=>(List.not_mem_nil ha).elim,fun r hr=>(List.not_mem_nil hr).elim⟩) (by assumption)
def fC (F:Fl) (kind f:Int):List Int:=match iF F f with
 | some c=>if c.kind=kind then (List.range c.count.toNat).map (fun i:Nat=>c.first+(i:Int)) else []
 | none=>[]
def fO (F:Fl) (fs:List Int) (kind:Int):List Int:=fs.flatMap (fC F kind)
def vG (F:Fl) (fs:List Int) (kind:Int) (n:Nat):Bool:=match F.rls[n]? with
 | some r=>decide (r.kind=kind)&&fs.contains r.flag
 | none=>false
def ji (F:Fl) (fs:List Int) (kind:Int):List Int:=((List.range F.rls.length).filter (vG F fs kind)).map (fun n:Nat=>(n:Int))
theorem pK {F:Fl} (h:mY F.cls F.rls) {kind f x:Int}:x∈fC F kind f↔∃(n:Nat) (hn:n < F.rls.length),x=n∧F.rls[n].flag=f∧F.rls[n].kind=kind:=by
 unfold fC
 constructor
 ·intro hx
  split at hx
  ·rename_i c hc
   have hm:=List.mem_of_find?_eq_some hc
   have hcf:c.flag=f:=by simpa using List.find?_some hc
   obtain⟨a,b,e,g⟩:=h.1 c hm
   split at hx
   ·rename_i hk
    simp only [List.mem_map,List.mem_range] at hx;obtain⟨i,hi,rfl⟩:=hx
    have hlt:(c.first+(i:Int)).toNat < F.rls.length:=by omega
    have:=g (c.first+(i:Int)).toNat hlt (by omega) (by omega)
    exact⟨_,hlt,by omega,by rw [this.1,hcf],by rw [this.2,hk]⟩
   cases hx
  cases hx
 rintro⟨n,hn,rfl,rfl,rfl⟩
 obtain⟨c,hc,a,b⟩:=h.2 n hn;have hfc:iF F F.rls[n].flag=some c:=hc
 obtain⟨a',b',e,g⟩:=h.1 c (List.mem_of_find?_eq_some hc)
 rw [hfc];dsimp only;rw [if_pos (g n hn a b).2.symm];simp only [List.mem_map,List.mem_range]
 exact⟨(n - c.first).toNat,by omega,by omega⟩
theorem yt {F:Fl} (h:mY F.cls F.rls) {fs:List Int} {kind x:Int}:x∈fO F fs kind↔∃(n:Nat) (hn:n < F.rls.length),x=n∧F.rls[n].flag∈fs∧F.rls[n].kind=kind:=by
 unfold fO
 rw [List.mem_flatMap]
 constructor
 ·rintro⟨f,hf,hx⟩
  obtain⟨n,hn,rfl,rfl,hk⟩:=(pK h).1 hx
  exact⟨n,hn,rfl,hf,hk⟩
 rintro⟨n,hn,rfl,hf,hk⟩
 exact⟨_,hf,(pK h).2 ⟨n,hn,rfl,rfl,hk⟩⟩
theorem Gq {F:Fl} {fs:List Int} {kind x:Int}:x∈ji F fs kind↔∃(n:Nat) (hn:n < F.rls.length),x=n∧F.rls[n].flag∈fs∧F.rls[n].kind=kind:=by
 unfold ji vG
 simp only [List.mem_map,List.mem_filter,List.mem_range]
 constructor
 ·rintro⟨n,⟨hn,hg⟩,rfl⟩
  rw [List.getElem?_eq_getElem hn] at hg
  simp at hg
  exact⟨n,hn,rfl,hg.2,hg.1⟩
 rintro⟨n,hn,rfl,hf,hk⟩
 refine⟨n,⟨hn,?_⟩,rfl⟩
 rw [List.getElem?_eq_getElem hn]
 simp [hf,hk]
theorem qZ (F:Fl) (fs:List Int) (kind:Int):(ji F fs kind).Pairwise (· < ·):=by
 unfold ji
 rw [List.pairwise_map]
 refine List.Pairwise.imp (fun {a b} h=>?_) ((List.pairwise_lt_range).filter _)
 omega
theorem zF {F:Fl} (kind f:Int):(fC F kind f).Nodup:=by
 unfold fC
 split
 ·split
  ·rw [List.nodup_iff_pairwise_ne,List.pairwise_map]
   refine List.Pairwise.imp (fun {a b} h=>?_) List.nodup_range
   omega
  exact List.nodup_nil
 exact List.nodup_nil
theorem tJ {F:Fl} (h:mY F.cls F.rls) (kind:Int):∀(fs:List Int),fs.Nodup→(fO F fs kind).Nodup
 | [],_=>List.nodup_nil
 | f::fs,hf=>by
   have e:fO F (f::fs) kind=fC F kind f++fO F fs kind:=by simp [fO]
   rw [e,List.nodup_append];have hf':=List.nodup_cons.1 hf
   refine⟨zF _ _,tJ h kind fs hf'.2,fun a ha b hb e=>?_⟩
   subst e
   obtain⟨n,hn,rfl,h1,-⟩:=(pK h).1 ha;obtain⟨m,hm,e,h2,-⟩:=(yt h).1 hb
   obtain rfl:n=m:=by omega
   rw [h1] at h2
   exact hf'.1 h2
theorem yu {F:Fl} (h:mY F.cls F.rls) {fs:List Int} (hf:fs.Nodup) (kind:Int):(fO F fs kind).mergeSort (fun x y=>decide (x≤y))=ji F fs kind:=by
 have hp:(fO F fs kind).Perm (ji F fs kind):=by
  rw [List.perm_ext_iff_of_nodup (tJ h kind fs hf) ((qZ F fs kind).imp (fun {a b} h=>by omega))]
  intro x
  rw [yt h,Gq]
 refine List.Perm.eq_of_pairwise (le:=fun x y:Int=>decide (x≤y)=true) (fun a b _ _ h1 h2=>by simp at h1 h2;omega) ?_ ((qZ F fs kind).imp (fun {a b} h=>by simp;omega)) ((List.mergeSort_perm _ _).trans hp)
 exact List.pairwise_mergeSort (le:=fun x y:Int=>decide (x≤y)) (fun a b c h1 h2=>by simp at h1 h2 ⊢;omega) (fun a b=>by simp;omega) _
theorem Gs (F:Fl) (fs:List Int) (kind:Int):(ji F fs kind).length≤F.rls.length:=by
 unfold ji
 rw [List.length_map]
 exact Nat.le_trans (List.length_filter_le _ _) (by rw [List.length_range];exact Nat.le_refl _)
theorem Gt {F:Fl} (h:mY F.cls F.rls) {fs:List Int} (hf:fs.Nodup) (kind:Int):(fO F fs kind).length≤F.rls.length:=by
 have:=congrArg List.length (yu h hf kind)
 rw [List.length_mergeSort] at this;rw [this]
 exact Gs F fs kind
theorem Eh {a:List Int} (h:canon a=a):a.Nodup:=by
 have:=jk a
 rw [h] at this
 exact this.imp (fun {a b} h=>by omega)
def j6 (zs:List Int):Prop:=canon zs=zs∧(∀z∈zs,0≤z∧z≤65535)∧(0:Int)∉zs
theorem j6.nil:j6 []:=⟨iP,fun z h=>(List.not_mem_nil h).elim,by simp⟩
theorem j6.len {zs:List Int} (h:j6 zs):zs.length≤65536:=fZ h.1 h.2.1
theorem j6.nodup {zs:List Int} (h:j6 zs):zs.Nodup:=Eh h.1
theorem Gu {F:Fl} (hok:iU F) (ht:fA F) (s:ByteArray):j6 (aQ F s).1 :=
 ⟨kP F s (fun a ha=>(hok.sets a ha).1),qB F s (fun a ha=>(hok.sets a ha).2),AP F s ht.2.1⟩
theorem Na {F:Fl} (hok:iU F) (ht:fA F):∀r∈F.rls,j6 r.next:=fun r hr=>⟨(hok.nexts r hr).1,(hok.nexts r hr).2,ht.2.2 r hr⟩
theorem Nb {F:Fl} (hok:iU F) (ht:fA F) {row:List ByteArray} {x:En} (h:jy F row=.ok x):j6 x.2:=by
 unfold jy at h
 split at h
 ·cases h
 split at h
 split at h
 ·cases h
 unfold gy at h
 split at h
 ·cases h
 split at h
 ·cases h
 split at h
 ·cases h;exact j6.nil
 unfold nJ at h
 split at h
 ·cases h
 split at h
 ·cases h;exact Gu hok ht _
 cases h
theorem IL {F:Fl} (hok:iU F) (ht:fA F) {count:Int}:∀(all:List Row) (i:Nat) (xs:List En),vS F count i all=.ok xs→∀x∈xs,j6 x.2∧x.1.size≤64
 | [],i,xs,h=>by rw [nK] at h;cases h;intro x hx;cases hx
 | (l,row)::rest,i,xs,h=>by
   rw [vS] at h
   split at h
   ·cases h
   ·split at h
    ·cases h
    ·rename_i y hy
     split at h
     ·cases h
     ·rename_i ys hys
      cases h
      intro x hx
      rcases List.mem_cons.1 hx with rfl | hx
      ·exact⟨Nb hok ht hy,AB hy⟩
      ·exact IL hok ht rest (i+1) ys hys x hx
structure Ei (es:List En):Prop where
 len:es.length≤65536
 each:∀x∈es,j6 x.2∧x.1.size≤64
theorem Qc {F:Fl} (hok:iU F) (ht:fA F) {t:List UInt8} {es:List En} (h:mg F t=.ok es):Ei es:=by
 unfold mg at h
 split at h
 ·cases h
 have hr:=wL t
 generalize rowsOf (aC t)=rows at h hr
 unfold dh at h
 split at h
 ·cases h
 split at h
 ·cases h
 split at h
 ·cases h
 split at h
 ·cases h
 rename_i xs hx
 split at h
 ·cases h
 cases h
 refine⟨?_,IL hok ht _ _ _ hx⟩
 rw [IE _ _ _ hx];simp at hr
 omega
theorem Nc {F:Fl} {t:List UInt8} {l c:Int} (h:mg F t=.error (l,c)):c≠0:=by
 unfold mg at h
 split at h
 ·cases h;decide
 generalize rowsOf (aC t)=rows at h
 unfold dh at h
 split at h
 ·cases h;decide
 split at h
 ·cases h;decide
 split at h
 ·cases h;decide
 split at h
 ·rename_i p hp
  cases h
  have:∀(all:List Row) (i:Nat) (l c:Int) (count:Int),vS F count i all=.error (l,c)→c≠0:=by
   intro all
   induction all with
   | nil=>intro i l c count h;rw [nK] at h;cases h
   | cons x rest ih =>
    intro i l c count h
    obtain⟨l0,row⟩:=x;rw [vS] at h
    split at h
    ·cases h;decide
    split at h
    ·rename_i he;cases h;exact Cc he
    split at h
    ·rename_i hp;cases h;exact ih _ _ _ _ hp
    cases h
  exact this _ _ _ _ _ hp
 split at h
 ·cases h;decide
 cases h
def yw (a d:List UInt8):Except (Int×Int×Int) (Fl×List En):=match gY a with
 | .error p=>.error (1,p.1,p.2)
 | .ok F=>match mg F d with
   | .error p=>.error (2,p.1,p.2)
   | .ok es=>.ok (F,es)
theorem Ej {a d:List UInt8} {p:Int×Int} (h:gY a=.error p):yw a d=.error (1,p.1,p.2):=by rw [yw,h]
theorem El {a d:List UInt8} {F:Fl} {p:Int×Int} (h:gY a=.ok F) (h2:mg F d=.error p):yw a d=.error (2,p.1,p.2):=by rw [yw,h];simp only [h2]
theorem Ci {a d:List UInt8} {F:Fl} {es:List En} (h:gY a=.ok F) (h2:mg F d=.ok es):yw a d=.ok (F,es):=by rw [yw,h];simp only [h2]
theorem Cj:∀(xs:List ug) (k:Nat) (hk:k < xs.length),(aX xs)[k*2]?=some (.string xs[k].1)∧(aX xs)[k*2+1]?=some xs[k].2.1
 | [],_,hk=>absurd hk (Nat.not_lt_zero _)
 | x::r,0,_=>⟨rfl,rfl⟩
 | x::r,k+1,hk=>by
   have hk':k < r.length:=by simpa using hk
   have e:aX (x::r)=[.string x.1,x.2.1]++aX r:=by simp [aX]
   have h:=Cj r k hk'
   rw [e,List.getElem?_append_right (by simp;omega),List.getElem?_append_right (by simp;omega)]
   have e1:(k+1)*2 - ([.string x.1,x.2.1]:List Value).length=k*2:=by simp;omega
   have e2:(k+1)*2+1 - ([.string x.1,x.2.1]:List Value).length=k*2+1:=by simp;omega
   rw [e1,e2]
   exact h
theorem IQ:∀(xs:List ug) (k:Nat) (hk:k < xs.length) (u:Value),(aX xs).set (k*2+1) u=aX (xs.set k (xs[k].1,u,xs[k].2.2))
 | [],_,hk,_=>absurd hk (Nat.not_lt_zero _)
 | x::r,0,_,u=>rfl
 | x::r,k+1,hk,u=>by
   have hk':k < r.length:=by simpa using hk
   have:=IQ r k hk' u
   have e:aX (x::r)=[.string x.1,x.2.1]++aX r:=by simp [aX]
   have e2:aX ((x::r).set (k+1) ((x::r)[k+1].1,u,(x::r)[k+1].2.2))=[.string x.1,x.2.1]++aX (r.set k (r[k].1,u,r[k].2.2)):=by simp [aX]
   rw [e2,←this,e,List.set_append_right _ _ (by simp;omega)]
   congr 2
   simp;omega
theorem Gv (xs:List ug) (k:Nat) (hk:k < xs.length) (u:Value):dU (xs.set k (xs[k].1,u,xs[k].2.2))=dU xs:=by
 unfold dU
 rw [List.map_set]
 apply List.ext_getElem
 ·simp
 intro i h1 h2
 rw [List.getElem_set]
 split
 ·rename_i e;subst e;simp
 rfl
theorem rU {xs:List ug} {es:List En} (h:dU xs=es) {k:Nat} (hk:k < xs.length):∃hk':k < es.length,es[k]=(xs[k].1,xs[k].2.2):=by
 subst h
 exact⟨by rw [dz];exact hk,by simp [dU]⟩
theorem Tp {w:World} (xs:List ug) (h:∀x∈xs,FS w x.2.1 x.2.2):∀u∈aX xs,u.oneCell'=true:=by
 intro u hu
 simp only [aX,List.mem_flatMap] at hu;obtain⟨x,hx,hu⟩:=hu;simp at hu
 rcases hu with rfl | rfl
 ·rfl
 exact (h x hx).one
def zG (B:Nat) (w:World) (v:Value) (es:List En):Prop:=∃xs:List ug,dU xs=es∧w.ownsRow B 35 2 v xs.length (aX xs)∧∀x∈xs,FN B w x.2.1 x.2.2
def Kg (w:World) (v:Value) (es:List En):Prop:=∃xs:List ug,dU xs=es∧Rd w 2 v xs.length (aX xs)∧∀x∈xs,FS w x.2.1 x.2.2
theorem zG.kept {B:Nat} {X:List Nat} {W W':World} {v:Value} {es:List En} (h:zG B W v es) (hk:Kept X W W') (hX:∀x∈X,x < B):zG B W' v es:=by
 obtain⟨xs,h1,h2,h3⟩:=h
 exact⟨xs,h1,eO h2 hk hX,fun x hx=>(h3 x hx).kept hk hX⟩
theorem zG.mono {B B':Nat} {W:World} {v:Value} {es:List En} (h:zG B W v es) (hB:B'≤B):zG B' W v es:=by
 obtain⟨xs,h1,h2,h3⟩:=h
 exact⟨xs,h1,jg h2 hB,fun x hx=>(h3 x hx).mono hB⟩
theorem zG.rd {B:Nat} {W:World} {v:Value} {es:List En} (h:zG B W v es):Kg W v es:=by
 obtain⟨xs,h1,h2,h3⟩:=h
 exact⟨xs,h1,Rd.aN h2,fun x hx=>(h3 x hx).fs⟩
theorem Kg.keep {W W':World} {v:Value} {es:List En} (h:Kg W v es) (hb:Below W.heap.size W W'):Kg W' v es:=by
 obtain⟨xs,h1,h2,h3⟩:=h
 exact⟨xs,h1,h2.keep hb,fun x hx=>(h3 x hx).keep hb⟩
def Gw (w:World) (G:Nat) (W:World) (xs:List ug) (k:Nat):Prop:=∀(j:Nat) (hj:j < xs.length),(j < k→FN G W xs[j].2.1 xs[j].2.2)∧(k≤j→FS w xs[j].2.1 xs[j].2.2)
theorem Gw.kept {w:World} {G:Nat} {X:List Nat} {W W':World} {xs:List ug} {k:Nat} (h:Gw w G W xs k) (hk:Kept X W W') (hX:∀x∈X,x < G):Gw w G W' xs k :=
 fun j hj=>⟨fun hk'=>((h j hj).1 hk').kept hk hX,(h j hj).2⟩
theorem Gw.step {w:World} {G:Nat} {W:World} {xs:List ug} {k:Nat} (h:Gw w G W xs k) (hk:k < xs.length) {u:Value} (hu:FN G W u xs[k].2.2):Gw w G W (xs.set k (xs[k].1,u,xs[k].2.2)) (k+1):=by
 intro j hj
 rw [List.length_set] at hj;rw [List.getElem_set]
 split
 ·rename_i e;subst e
  exact⟨fun _=>hu,fun h=>absurd h (by omega)⟩
 rename_i e
 exact⟨fun hj'=>(h j hj).1 (by omega),fun hj'=>(h j hj).2 (by omega)⟩
theorem Gx (wb:Nat) (es:List En) (w:World) (h:iH w wb es) (hok:Ei es) :
  Calls Tryz.prog 36 #[.pointer (some ⟨wb,0,none⟩)] w fun e w'=>∃v,e=.returned v∧zG w.heap.size w' v es∧Below w.heap.size w w':=by
 obtain⟨mb,lv,xs,h1,h2,h3,h4,-⟩:=h
 have c0:w.cell? ⟨wb,0,none⟩=some lv:=by rw [cell_of_heap h1];rfl
 have hxl:xs.length=es.length:=by rw [←h2,dz]
 have hn:xs.length≤65536:=by rw [hxl];exact hok.len
 have HQ:=hid (Ee lv xs.length (aX xs) w h3 (Tp xs h4) hn);have HE:=hid h2;have HF:=hid h4;have jr:=hid hok;have hwb:=block_lt h1;obtain⟨-,p,c,rfl,-,-⟩:=h3;clear h1 h2 h4 hxl hok
 go_enter Tryz.func36,Tryz.ntmps36
 go_wp2_with (go_at_call 66;refine HQ.o.mono ?_;rintro e wA ⟨v',rfl,ho⟩;have HB:=hid ho.below;have HO:=hid ho.own;obtain⟨A1,k1,rfl⟩:=aF ho.own;clear ho HQ;obtain⟨n,hxn⟩:∃n,xs.length=n:=⟨_,rfl⟩;have HN:=hid hxn;rw [hxn] at HO hn ⊢;clear hxn)
 go_loopw [4,14] (fun _ x wr=>∃(k:Nat) (ys:List ug),k≤n∧x=.int .i64 k∧Hid (ys.length=n)∧Hid (dU ys=es)∧Hid (wr.ownsRow w.heap.size 35 2 (.slice A1 n k1) n (aX ys))∧Hid (Gw w wA.heap.size wr ys k)∧Hid (Below w.heap.size w wr)∧Hid (wA.heap.size≤wr.heap.size)) (fun _ x _=>n - (intOf x).toNat)
 case atStart=>exact⟨0,xs,Nat.zero_le _,rfl,HN,HE,HO,hid (fun j hj=>⟨fun h=>absurd h (Nat.not_lt_zero _),fun _=>HF.o _ (List.getElem_mem hj)⟩),HB,hid (Nat.le_refl _)⟩
 case round =>
 obtain⟨k,ys,hk,rfl,HL,HA,HR,HM,Ak,OX⟩:=hrel
 by_cases hlt:k < n
 ·have HGA:Hid (∀g,A1=some ⟨g,0,none⟩→g < wA.heap.size):=hid (fun g hA=>by
   obtain⟨g',cap,hv,-,-,hl,-⟩:=uL HO.o (by omega)
   injection hv with e1
   rw [hA] at e1
   injection e1 with e1
   injection e1 with e1
   omega)
  obtain⟨g,cap,hva,hcap,hg,hgl,hcs,hzs⟩:=uL HR.o (by omega)
  cases hva
  have hgA:g < wA.heap.size:=HGA.o g rfl
  have hmu:k < ys.length:=by rw [HL.o];exact hlt
  obtain⟨-,q1⟩:=Cj ys k hmu;have dk:=hcs _ _ q1;have zk:=hzs (k*2+1);have hfs:=(HM.o k hmu).2 (Nat.le_refl _);obtain⟨hke,hek⟩:=rU HA.o hmu;have hset:=(jr.o.each _ (List.getElem_mem hke)).1;rw [hek] at hset;have hbn:=hset.len;obtain⟨y,hy⟩:∃y,ys[k]=y:=⟨_,rfl⟩;obtain⟨y1,u,b⟩:=y;rw [hy] at dk hfs hbn;dsimp only at dk hfs hbn;have XG:Hid (ys[k]=(y1,u,b)):=hid hy
  have VG:Hid (∀W,Below w.heap.size w W→Calls Tryz.prog 40 #[u] W fun e w'=>∃v',e=.returned v'∧FN W.heap.size w' v' b∧Below W.heap.size W w'):=hid (fun W hW=>kR u b W (hfs.keep hW) (by omega))
  obtain⟨pu,cu,rfl,-⟩:=hfs
  have hkn:(k:Int) < (n:Int):=by omega
  clear hcs hzs hy hset hek hke q1 HGA
  go_wp2_with (go_at_call 40;refine (VG.o _ Ak.o).mono ?_;rintro e w8 ⟨v8,rfl,hfn,mQ⟩;obtain⟨p8,c8,rfl⟩:∃p c,v8=.slice p b.length c:=(by obtain⟨p,c,hv,-⟩:=hfn;exact⟨p,c,hv⟩);have oH:=hid mQ;have Gf:=hid hfn;have d8:=(mQ.cell (p:=⟨g,k*2+1,none⟩) hgl).trans dk;have z8:=(mQ.frozen (p:=⟨g,k*2+1,none⟩) hgl).trans zk;clear hfn mQ)
  go_roundw
  case rel =>
   refine⟨k+1,ys.set k (y1,.slice p8 b.length c8,b),by omega,by go_num,hid (by rw [List.length_set];exact HL.o),hid ?_,hid ?_,hid ?_,hid ((Ak.o.trans (oH.o.mono Ak.o.size)).setCell hg _),hid (by have:=oH.o.size;have:=OX.o;simp;omega)⟩
   ·have:=Gv ys k hmu (.slice p8 b.length c8)
    rw [XG.o] at this;rw [this];exact HA.o
   ·have h5:=IQ ys k hmu (.slice p8 b.length c8)
    rw [XG.o] at h5;rw [←h5]
    exact BZ (own_below HR.o oH.o) _ _
   have h6:=((HM.o.kept (Kept.of_below (E:=[]) oH.o) (by simp)).kept (dn w8 g (k*2+1) (.slice p8 b.length c8)) (by simp;omega)).step hmu (u:=.slice p8 b.length c8) (by rw [XG.o];exact (Gf.o.mono OX.o).kept (dn _ _ _ _) (by simp;omega))
   rw [XG.o] at h6
   exact h6
  case measure=>simp [intOf];omega
 obtain rfl:k=n:=by omega
 go_wp2_with fail
 go_ret
 exact⟨_,rfl,⟨ys,HA.o,by rw [HL.o];exact HR.o,fun x hx=>by
  obtain⟨j,hj,rfl⟩:=List.mem_iff_getElem.1 hx
  exact ((HM.o j hj).1 (by have:=HL.o;omega)).mono HB.o.size⟩,Ak.o⟩
end Go.Proofs.YtfkblpjfknfgbaaGreatDoor
