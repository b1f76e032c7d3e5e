import Derived.BigQuiet
import Derived.Test.YtfkblpjfknfgbaaGreatDoorRows
import Derived.Test.YtfkblpjfknfgbaaGreatDoorQ13
import Derived.Test.YtfkblpjfknfgbaaGreatDoorQ5
import Derived.Test.YtfkblpjfknfgbaaGreatDoorQ8
set_option linter.unusedVariables false
set_option linter.unusedSimpArgs false
set_option maxHeartbeats 8000000
set_option maxRecDepth 100000
open Go.Maps Go.RowKit Go.WideMaps
open Go.Lib (hid cell_of_heap frozen_of_heap)
open Go.World (block_lt_of_cell?)
namespace Go.Proofs.YtfkblpjfknfgbaaGreatDoor
structure AV where
 au:Value
 aI:Value
 cls:Value
 rls:Value
def zA (F:Fl) (a:AV):Array Value:=#[.int .i64 F.kind,.string F.charset,.string F.qI,.int .u16 F.s0,.int .u16 F.s1,.int .u16 F.s2,.int .u16 F.s3,.int .u16 F.s4,.int .i64 F.least,a.au,a.aI,a.cls,a.rls]
def J2 (F:Fl) (a:AV):Value:=.agg (zA F a)
theorem FN.kept {B:Nat} {X:List Nat} {W W':World} {v:Value} {zs:List Int} (h:FN B W v zs) (hk:Kept X W W') (hX:∀x∈X,x < B):FN B W' v zs:=by
 obtain⟨p,c,hv,hc,h⟩:=h
 refine⟨p,c,hv,hc,h.imp id ?_⟩
 rintro⟨g,off,hp,h1,h2⟩
 refine⟨g,off,hp,h1,fun i hi=>?_⟩
 obtain⟨h3,h4⟩:=h2 i hi
 have hb:=hk.block g (block_lt_of_cell? _ _ h3) (fun hm=>by have:=hX g hm;omega)
 exact⟨(World.cell?_of_block hb).trans h3,(World.frozen?_of_block hb).trans h4⟩
theorem eO {B e size n:Nat} {X:List Nat} {W W':World} {v:Value} {xs:List Value} (h:W.ownsRow B e size v n xs) (hk:Kept X W W') (hX:∀x∈X,x < B):W'.ownsRow B e size v n xs :=
 hk.own h (fun g hg hm=>by
  have:=h.1
  rcases h.2 with ⟨rfl,_⟩ | ⟨g',cap,cur,rfl,hB,_⟩
  ·simp [Value.ownBlock] at hg
  ·have e1:g'=g:=by simpa [Value.ownBlock] using hg
   have:=hX g hm
   omega)
theorem jg {B B' e size n:Nat} {W:World} {v:Value} {xs:List Value} (h:W.ownsRow B e size v n xs) (hB:B'≤B):W.ownsRow B' e size v n xs:=by
 refine⟨h.1,h.2.imp id ?_⟩
 rintro⟨g,cap,cur,hv,h1,r⟩
 exact⟨g,cap,cur,hv,Nat.le_trans hB h1,r⟩
theorem BZ {B e size n cap g:Nat} {W:World} {xs:List Value} (h:W.ownsRow B e size (.slice (some ⟨g,0,none⟩) n cap) n xs) (j:Nat) (u:Value):(W.setCell ⟨g,j,none⟩ u).ownsRow B e size (.slice (some ⟨g,0,none⟩) n cap) n (xs.set j u):=by
 refine⟨by rw [List.length_set];exact h.1,?_⟩
 rcases h.2 with ⟨hv,_⟩ | ⟨g',cap',cur,hv,h1,h2,h3,h4,h5,h6⟩
 ·cases hv
 cases hv
 refine .inr ⟨g,cap,cur.setIfInBounds j u,rfl,h1,heap_setCell_same W g j cur _ _ h2,h3,h4,by rw [Array.size_setIfInBounds];exact h5,?_⟩
 rw [Array.toList_setIfInBounds,←h6]
 exact List.take_set
theorem uL {B e size n:Nat} {W:World} {v:Value} {xs:List Value} (h:W.ownsRow B e size v n xs) (hn:0 < n):∃g cap,v=.slice (some ⟨g,0,none⟩) n cap∧n≤cap∧B≤g∧g < W.heap.size∧(∀j u,xs[j]?=some u→W.cell? ⟨g,j,none⟩=some u)∧∀j,W.frozen? ⟨g,j,none⟩=false:=by
 rcases h.2 with ⟨_,h0⟩ | ⟨g,cap,cur,rfl,h1,h2,h3,h4,h5,h6⟩
 ·omega
 refine⟨g,cap,rfl,h3,h1,block_lt h2,fun j u hj=>?_,fun j=>frozen_of_heap h2 j⟩
 have:=h.cells (g:=g) rfl j u hj
 rwa [gJ] at this
structure tq (B:Nat) (w:World) (F:Fl) (a:AV):Prop where
 au:w.ownsRow B 145 2 a.au F.au.length (bB F.au)
 aI:∃us:List Value,w.ownsRow B 29 1 a.aI F.aI.length us∧us.length=F.aI.length∧∀(k:Nat) u b,us[k]?=some u→F.aI[k]?=some b→FN B w u b
 cls:w.ownsRow B 99 5 a.cls F.cls.length (bG F.cls)
 rls:∃rs:List (Rl×Value),rs.map (·.1)=F.rls∧w.ownsRow B 31 7 a.rls rs.length (aK rs)∧∀r∈rs,FN B w r.2 r.1.next
theorem tq.kept {B:Nat} {X:List Nat} {W W':World} {F:Fl} {a:AV} (h:tq B W F a) (hk:Kept X W W') (hX:∀x∈X,x < B):tq B W' F a:=by
 obtain⟨us,h1,h2,h3⟩:=h.aI
 obtain⟨rs,h4,h5,h6⟩:=h.rls
 exact⟨eO h.au hk hX,⟨us,eO h1 hk hX,h2,fun k u b hu hb=>(h3 k u b hu hb).kept hk hX⟩,eO h.cls hk hX,rs,h4,eO h5 hk hX,fun r hr=>(h6 r hr).kept hk hX⟩
theorem tq.keep {B:Nat} {W W':World} {F:Fl} {a:AV} (h:tq B W F a) (hb:Below W.heap.size W W'):tq B W' F a:=h.kept (Kept.of_below (E:=[]) hb) (by simp)
theorem tq.mono {B B':Nat} {W:World} {F:Fl} {a:AV} (h:tq B W F a) (hB:B'≤B):tq B' W F a:=by
 obtain⟨us,h1,h2,h3⟩:=h.aI
 obtain⟨rs,h4,h5,h6⟩:=h.rls
 exact⟨jg h.au hB,⟨us,jg h1 hB,h2,fun k u b hu hb=>(h3 k u b hu hb).mono hB⟩,jg h.cls hB,rs,h4,jg h5 hB,fun r hr=>(h6 r hr).mono hB⟩
theorem IG:∀(rs:List (Rl×Value)) (k:Nat) (hk:k < rs.length) (u:Value),(aK rs).set (k*7+6) u=aK (rs.set k (rs[k].1,u))
 | [],_,hk,_=>absurd hk (Nat.not_lt_zero _)
 | c::r,0,_,u=>rfl
 | c::r,k+1,hk,u=>by
   have hk':k < r.length:=by simpa using hk
   have:=IG r k hk' u
   have e:aK (c::r)=[.int .i64 c.1.kind,.int .u16 c.1.flag,.bool c.1.cross,.string c.1.strip,.string c.1.add,.string c.1.cond,c.2]++aK r:=by simp [aK]
   have e2:aK ((c::r).set (k+1) ((c::r)[k+1].1,u))=[.int .i64 c.1.kind,.int .u16 c.1.flag,.bool c.1.cross,.string c.1.strip,.string c.1.add,.string c.1.cond,c.2]++aK (r.set k (r[k].1,u)):=by simp [aK]
   rw [e2,←this,e,List.set_append_right _ _ (by simp;omega)]
   congr 2
   simp;omega
theorem DX (rs:List (Rl×Value)) (k:Nat) (hk:k < rs.length) (u:Value):(rs.set k (rs[k].1,u)).map (·.1)=rs.map (·.1):=by
 rw [List.map_set]
 apply List.ext_getElem
 ·simp
 intro i h1 h2
 rw [List.getElem_set]
 split
 ·rename_i e;subst e;simp
 rfl
structure vT (w W:World) (F:Fl) (a:AV):Prop where
 base:Below w.heap.size w W
 out:W.heap[w.heap.size+1]?=some (.cells (zA F a) 83 (0,0))
 res:W.heap[w.heap.size]?=some (.cells #[.int .i64 0,.string ByteArray.empty,.string ByteArray.empty,.int .u16 0,.int .u16 0,.int .u16 0,.int .u16 0,.int .u16 0,.int .i64 0,.slice none 0 0,.slice none 0 0,.slice none 0 0,.slice none 0 0] 83 (0,0))
section
variable {w W W':World} {F:Fl} {a:AV}
theorem vT.start (w:World) (F:Fl) (a:AV):vT w ((w.alloc (.cells #[.int .i64 0,.string ByteArray.empty,.string ByteArray.empty,.int .u16 0,.int .u16 0,.int .u16 0,.int .u16 0,.int .u16 0,.int .i64 0,.slice none 0 0,.slice none 0 0,.slice none 0 0,.slice none 0 0] 83)).alloc (.cells (zA F a) 83)) F a:=by
 obtain⟨w1,hw1⟩:∃W,w.alloc (.cells #[.int .i64 0,.string ByteArray.empty,.string ByteArray.empty,.int .u16 0,.int .u16 0,.int .u16 0,.int .u16 0,.int .u16 0,.int .i64 0,.slice none 0 0,.slice none 0 0,.slice none 0 0,.slice none 0 0] 83)=W:=⟨_,rfl⟩
 have s1:w1.heap.size=w.heap.size+1:=by rw [←hw1];simp
 have b1:Below w.heap.size w w1:=by rw [←hw1];exact (Below.refl _ _).alloc (Nat.le_refl _) _
 have f1:w1.heap[w.heap.size]?=some (.cells #[.int .i64 0,.string ByteArray.empty,.string ByteArray.empty,.int .u16 0,.int .u16 0,.int .u16 0,.int .u16 0,.int .u16 0,.int .i64 0,.slice none 0 0,.slice none 0 0,.slice none 0 0,.slice none 0 0] 83 (0,0)):=by rw [←hw1];exact heap_alloc_new w _
 rw [hw1];have b2:Below w1.heap.size w1 (w1.alloc (.cells (zA F a) 83)):=(Below.refl _ _).alloc (Nat.le_refl _) _
 exact⟨b1.trans (b2.mono (by omega)),by rw [←s1];exact heap_alloc_new w1 _,(b2.block _ (by omega)).trans f1⟩
theorem vT.size (h:vT w W F a):w.heap.size+2≤W.heap.size:=block_lt h.out
theorem vT.below (h:vT w W F a) (hb:Below W.heap.size W W'):vT w W' F a:=⟨h.base.trans (hb.mono h.base.size),(hb.block _ (block_lt h.out)).trans h.out,(hb.block _ (block_lt h.res)).trans h.res⟩
theorem vT.B_ {a':AV} (h:vT w W F a) (j:Nat) (u:Value) (harr:(zA F a).setIfInBounds j u=zA F a'):vT w (W.setCell ⟨w.heap.size+1,j,none⟩ u) F a' :=
 ⟨h.base.setCell (by simp) _,by rw [←harr];exact heap_setCell_same _ _ j _ _ _ h.out,by rw [heap_setCell_other _ ⟨w.heap.size+1,j,none⟩ w.heap.size _ (by simp)];exact h.res⟩
theorem vT.setRow (h:vT w W F a) (g j:Nat) (u:Value) (hg:w.heap.size+2≤g):vT w (W.setCell ⟨g,j,none⟩ u) F a :=
 ⟨h.base.setCell (by simp;omega) _,by rw [heap_setCell_other _ ⟨g,j,none⟩ (w.heap.size+1) _ (by simp;omega)];exact h.out,by rw [heap_setCell_other _ ⟨g,j,none⟩ w.heap.size _ (by simp;omega)];exact h.res⟩
theorem vT.oc (h:vT w W F a) (j:Nat):W.cell? ⟨w.heap.size+1,j,none⟩=(zA F a)[j]?:=cell_of_heap h.out j
theorem vT.oz (h:vT w W F a) (j:Nat):W.frozen? ⟨w.heap.size+1,j,none⟩=false:=frozen_of_heap h.out j
end
theorem SH (rs:List (ByteArray×ByteArray)):∀u∈bB rs,u.oneCell'=true:=by
 intro u hu
 simp only [bB,List.mem_flatMap] at hu;obtain⟨x,_,hu⟩:=hu
 simp at hu;rcases hu with rfl | rfl<;>rfl
theorem SI (cs:List Cl):∀u∈bG cs,u.oneCell'=true:=by
 intro u hu
 simp only [bG,List.mem_flatMap] at hu;obtain⟨x,_,hu⟩:=hu
 simp at hu;rcases hu with rfl | rfl | rfl | rfl | rfl<;>rfl
theorem FS.one {w:World} {v:Value} {zs:List Int} (h:FS w v zs):v.oneCell'=true:=by
 obtain⟨p,c,rfl,-⟩:=h;rfl
theorem SK {w:World} (rs:List (Rl×Value)) (h:∀r∈rs,FS w r.2 r.1.next):∀u∈aK rs,u.oneCell'=true:=by
 intro u hu
 simp only [aK,List.mem_flatMap] at hu;obtain⟨x,hx,hu⟩:=hu;simp at hu
 rcases hu with rfl | rfl | rfl | rfl | rfl | rfl | rfl
 case inr.inr.inr.inr.inr.inr=>exact (h x hx).one
 all_goals rfl
theorem SL {w:World} {us:List Value} {bs:List (List Int)} (hl:us.length=bs.length) (h:∀(k:Nat) u b,us[k]?=some u→bs[k]?=some b→FS w u b):∀u∈us,u.oneCell'=true:=by
 intro u hu
 obtain⟨k,hk,rfl⟩:=List.mem_iff_getElem.1 hu
 exact (h k us[k] bs[k] (List.getElem?_eq_getElem hk) (List.getElem?_eq_getElem (by omega))).one
def DY (w:World) (G:Nat) (W:World) (us:List Value) (bs:List (List Int)) (k:Nat):Prop:=us.length=bs.length∧∀(j:Nat) u b,us[j]?=some u→bs[j]?=some b→(j < k→FN G W u b)∧(k≤j→FS w u b)
theorem DY.kept {w:World} {G:Nat} {X:List Nat} {W W':World} {us:List Value} {bs:List (List Int)} {k:Nat} (h:DY w G W us bs k) (hk:Kept X W W') (hX:∀x∈X,x < G):DY w G W' us bs k :=
 ⟨h.1,fun j u b hu hb'=>⟨fun hj=>((h.2 j u b hu hb').1 hj).kept hk hX,(h.2 j u b hu hb').2⟩⟩
theorem DY.step {w:World} {G:Nat} {W:World} {us:List Value} {bs:List (List Int)} {k:Nat} (h:DY w G W us bs k) (hk:k < bs.length) {u:Value} (hu:FN G W u bs[k]):DY w G W (us.set k u) bs (k+1):=by
 refine⟨by rw [List.length_set];exact h.1,fun j u' b hu' hb=>?_⟩
 rw [List.getElem?_set] at hu'
 by_cases e:k=j
 ·subst e
  rw [if_pos rfl,if_pos (by rw [h.1];exact hk)] at hu'
  cases hu'
  rw [List.getElem?_eq_getElem hk] at hb
  cases hb
  exact⟨fun _=>hu,fun h=>absurd h (by omega)⟩
 rw [if_neg e] at hu'
 exact⟨fun hj=>(h.2 j u' b hu' hb).1 (by omega),fun hj=>(h.2 j u' b hu' hb).2 (by omega)⟩
def DZ (w:World) (G:Nat) (W:World) (rs:List (Rl×Value)) (k:Nat):Prop:=∀(j:Nat) (hj:j < rs.length),(j < k→FN G W rs[j].2 rs[j].1.next)∧(k≤j→FS w rs[j].2 rs[j].1.next)
theorem DZ.kept {w:World} {G:Nat} {X:List Nat} {W W':World} {rs:List (Rl×Value)} {k:Nat} (h:DZ w G W rs k) (hk:Kept X W W') (hX:∀x∈X,x < G):DZ w G W' rs k :=
 fun j hj=>⟨fun hk'=>((h j hj).1 hk').kept hk hX,(h j hj).2⟩
theorem DZ.step {w:World} {G:Nat} {W:World} {rs:List (Rl×Value)} {k:Nat} (h:DZ w G W rs k) (hk:k < rs.length) {u:Value} (hu:FN G W u rs[k].1.next):DZ w G W (rs.set k (rs[k].1,u)) (k+1):=by
 intro j hj
 rw [List.length_set] at hj;rw [List.getElem_set]
 split
 ·rename_i e;subst e
  exact⟨fun _=>hu,fun h=>absurd h (by omega)⟩
 rename_i e
 exact⟨fun hj'=>(h j hj).1 (by omega),fun hj'=>(h j hj).2 (by omega)⟩
theorem xV (fb:Nat) (F:Fl) (w:World) (h:gu w fb F) (hok:iU F) :
  Calls Tryz.prog 30 #[.pointer (some ⟨fb,0,none⟩)] w fun e w'=>∃a,e=.returned (J2 F a)∧tq w.heap.size w' F a∧Below w.heap.size w w':=by
 obtain⟨i,v,n,h0,h1,-,h3,⟨us,h4,h5,h6⟩,h7,rs,h8,h9,h10⟩:=h.mem
 have c0:w.cell? ⟨fb,0,none⟩=some (.int .i64 F.kind):=by rw [cell_of_heap h1];rfl
 have c1:w.cell? ⟨fb,1,none⟩=some (.string F.charset):=by rw [cell_of_heap h1];rfl
 have c2:w.cell? ⟨fb,2,none⟩=some (.string F.qI):=by rw [cell_of_heap h1];rfl
 have c3:w.cell? ⟨fb,3,none⟩=some (.int .u16 F.s0):=by rw [cell_of_heap h1];rfl
 have c4:w.cell? ⟨fb,4,none⟩=some (.int .u16 F.s1):=by rw [cell_of_heap h1];rfl
 have c5:w.cell? ⟨fb,5,none⟩=some (.int .u16 F.s2):=by rw [cell_of_heap h1];rfl
 have c6:w.cell? ⟨fb,6,none⟩=some (.int .u16 F.s3):=by rw [cell_of_heap h1];rfl
 have c7:w.cell? ⟨fb,7,none⟩=some (.int .u16 F.s4):=by rw [cell_of_heap h1];rfl
 have c8:w.cell? ⟨fb,8,none⟩=some (.int .i64 F.least):=by rw [cell_of_heap h1];rfl
 have c9:w.cell? ⟨fb,9,none⟩=some v.au:=by rw [cell_of_heap h1];rfl
 have c10:w.cell? ⟨fb,10,none⟩=some v.aI:=by rw [cell_of_heap h1];rfl
 have c11:w.cell? ⟨fb,11,none⟩=some v.cls:=by rw [cell_of_heap h1];rfl
 have c12:w.cell? ⟨fb,12,none⟩=some v.rls:=by rw [cell_of_heap h1];rfl
 have Fp:=block_lt h1;have BM:=hid h3;have oF:=hid h7;have Md:=hid (⟨h4,h5,h6⟩:_∧_∧_);have Iq:=hid (⟨h8,h9,h10⟩:_∧_∧_);have jr:=hid hok;obtain⟨vr,va,vc,vl⟩:=v;dsimp only at c9 c10 c11 c12 BM oF Md Iq;obtain⟨-,Ar,kr,rfl,-,-⟩:=h3;obtain⟨-,Aa,ka,rfl,-,-⟩:=h4;obtain⟨-,Ac,kc,rfl,-,-⟩:=h7;obtain⟨-,Al,kl,rfl,-,-⟩:=h9;clear h h0 h1 h5 h6 h8 h10 hok
 go_enter Tryz.func30,Tryz.ntmps30
 go_upto_region 3 with fail
 go_cut [3] from 10 to 13 (fun p W=>p=.pointer (some ⟨w.heap.size+1,0,none⟩)∧Hid (vT w W F ⟨.slice Ar F.au.length kr,.slice Aa F.aI.length ka,.slice Ac F.cls.length kc,.slice Al rs.length kl⟩))
 case first =>
  go_wp2_with fail
  all_goals go_meet
  all_goals exact⟨rfl,hid (vT.start w F ⟨.slice Ar F.au.length kr,.slice Aa F.aI.length ka,.slice Ac F.cls.length kc,.slice Al rs.length kl⟩)⟩
 case rest =>
 obtain⟨rfl,Lh⟩:=hcut
 clear c0 c1 c2 c3 c4 c5 c6 c7 c8 c9 c10 c11 c12 Fp
 have HQ1:Hid (∀W,Below w.heap.size w W→Calls Tryz.prog 57 #[.slice Ar F.au.length kr] W fun e w'=>∃v',e=.returned v'∧Own W w' 145 2 v' F.au.length (bB F.au)):=hid (fun W hb=>DN _ _ _ W (BM.o.keep hb) (SH _) jr.o.au)
 have K_:Hid (∀W,Below w.heap.size w W→Calls Tryz.prog 58 #[.slice Ac F.cls.length kc] W fun e w'=>∃v',e=.returned v'∧Own W w' 99 5 v' F.cls.length (bG F.cls)):=hid (fun W hb=>DT _ _ _ W (oF.o.keep hb) (SI _) jr.o.cls)
 have Xq:Hid (∀W,Below w.heap.size w W→Calls Tryz.prog 59 #[.slice Aa F.aI.length ka] W fun e w'=>∃v',e=.returned v'∧Own W w' 29 1 v' F.aI.length us):=hid (fun W hb=>DU _ _ _ W (Md.o.1.keep hb) (SL Md.o.2.1 Md.o.2.2) jr.o.aI)
 have hrn:rs.length=F.rls.length:=by rw [←Iq.o.1];simp
 have HQ4:Hid (∀W,Below w.heap.size w W→Calls Tryz.prog 60 #[.slice Al rs.length kl] W fun e w'=>∃v',e=.returned v'∧Own W w' 31 7 v' rs.length (aK rs)):=hid (fun W hb=>DV _ _ _ W (Iq.o.2.1.keep hb) (SK rs Iq.o.2.2) (by rw [hrn];exact jr.o.rls))
 have Xo:=hid hrn;clear hrn;obtain⟨w2,hw2⟩:∃W:World,W=wc:=⟨_,rfl⟩;rw [←hw2] at Lh ⊢;clear hw2 wc
 go_upto_region 4 with fail
 go_cut [] from 14 to 18 (fun W=>∃A k,Hid (vT w W F ⟨.slice A F.au.length k,.slice Aa F.aI.length ka,.slice Ac F.cls.length kc,.slice Al rs.length kl⟩)∧Hid (W.ownsRow (w.heap.size+2) 145 2 (.slice A F.au.length k) F.au.length (bB F.au)))
 case first =>
  have d9:w2.cell? ⟨w.heap.size+1,9,none⟩=some (.slice Ar F.au.length kr):=Lh.o.oc 9
  go_wp2_with (go_at_call 57;refine (HQ1.o _ Lh.o.base).mono ?_;rintro e w3 ⟨v3,rfl,ho⟩;obtain⟨A3,k3,rfl⟩:=aF ho.own;have lK:=hid ho;have Gd:=hid (Lh.o.below ho.below);have e9:w3.cell? ⟨w.heap.size+1,9,none⟩=some (.slice Ar F.au.length kr):=Gd.o.oc 9;have z9:=Gd.o.oz 9;clear ho)
  all_goals go_meet
  all_goals exact⟨A3,k3,hid (Gd.o.B_ 9 _ (by rfl)),hid (eO (jg lK.o.own Lh.o.size) (dn _ _ _ _) (by simp))⟩
 case rest =>
 obtain⟨A1,k1,Ux,YR⟩:=hcut
 obtain⟨wA,BR⟩:∃W:World,W=wc:=⟨_,rfl⟩;rw [←BR] at Ux YR ⊢;clear BR wc Lh HQ1
 go_upto_region 5 with fail
 go_cut [] from 18 to 21 (fun W=>∃A k,Hid (vT w W F ⟨.slice A1 F.au.length k1,.slice Aa F.aI.length ka,.slice A F.cls.length k,.slice Al rs.length kl⟩)∧Hid (W.ownsRow (w.heap.size+2) 145 2 (.slice A1 F.au.length k1) F.au.length (bB F.au))∧Hid (W.ownsRow (w.heap.size+2) 99 5 (.slice A F.cls.length k) F.cls.length (bG F.cls)))
 case first =>
  have d11:wA.cell? ⟨w.heap.size+1,11,none⟩=some (.slice Ac F.cls.length kc):=Ux.o.oc 11
  go_wp2_with (go_at_call 58;refine (K_.o _ Ux.o.base).mono ?_;rintro e w3 ⟨v3,rfl,ho⟩;obtain⟨A3,k3,rfl⟩:=aF ho.own;have lK:=hid ho;have Gd:=hid (Ux.o.below ho.below);have e11:w3.cell? ⟨w.heap.size+1,11,none⟩=some (.slice Ac F.cls.length kc):=Gd.o.oc 11;have VB:=Gd.o.oz 11;clear ho)
  all_goals go_meet
  all_goals exact⟨A3,k3,hid (Gd.o.B_ 11 _ (by rfl)),hid (eO (own_below YR.o lK.o.below) (dn _ _ _ _) (by simp)),hid (eO (jg lK.o.own Ux.o.size) (dn _ _ _ _) (by simp))⟩
 case rest =>
 obtain⟨A2,k2,SN,YS,YT⟩:=hcut
 obtain⟨wB,hwB⟩:∃W:World,W=wc:=⟨_,rfl⟩;rw [←hwB] at SN YS YT ⊢;clear hwB wc Ux YR K_
 go_upto_region 6 with fail
 go_cut [] from 22 to 25 (fun W=>∃A k,Hid (vT w W F ⟨.slice A1 F.au.length k1,.slice A F.aI.length k,.slice A2 F.cls.length k2,.slice Al rs.length kl⟩)∧Hid (Kept [w.heap.size+1] wB W)∧Hid (W.ownsRow wB.heap.size 29 1 (.slice A F.aI.length k) F.aI.length us))
 case first =>
  have Xr:wB.cell? ⟨w.heap.size+1,10,none⟩=some (.slice Aa F.aI.length ka):=SN.o.oc 10
  go_wp2_with (go_at_call 59;refine (Xq.o _ SN.o.base).mono ?_;rintro e w3 ⟨v3,rfl,ho⟩;obtain⟨A3,k3,rfl⟩:=aF ho.own;have lK:=hid ho;have Gd:=hid (SN.o.below ho.below);have e10:w3.cell? ⟨w.heap.size+1,10,none⟩=some (.slice Aa F.aI.length ka):=Gd.o.oc 10;have YU:=Gd.o.oz 10;clear ho)
  all_goals go_meet
  all_goals exact⟨A3,k3,hid (Gd.o.B_ 10 _ (by rfl)),hid ((Kept.of_below lK.o.below).set _ _ _ (.inl (by simp))),hid (eO lK.o.own (dn _ _ _ _) (by have:=SN.o.size;simp;omega))⟩
 case rest =>
 obtain⟨A3,k3,VD,Xt,VE⟩:=hcut
 obtain⟨wC,hwC⟩:∃W:World,W=wc:=⟨_,rfl⟩;rw [←hwC] at VD Xt VE ⊢;clear hwC wc Xq;have Xr:wC.cell? ⟨w.heap.size+1,10,none⟩=some (.slice A3 F.aI.length k3):=VD.o.oc 10;have YV:=SN.o.size;have hnA:=jr.o.aI
 have HG:Hid (DY w wC.heap.size wC us F.aI 0):=hid ⟨Md.o.2.1,fun j u b hu hb=>⟨fun h=>absurd h (Nat.not_lt_zero _),fun _=>Md.o.2.2 j u b hu hb⟩⟩
 obtain⟨na,hna⟩:∃n,F.aI.length=n:=⟨_,rfl⟩;have VF:=hid hna;rw [hna] at Xr hnA VD VE
 have HGC:Hid (∀g,A3=some ⟨g,0,none⟩→0 < na→g < wC.heap.size):=hid (fun g hA hn=>by
  obtain⟨g',cap,hv,-,-,hl,-⟩:=uL VE.o hn
  injection hv with e1
  rw [hA] at e1
  injection e1 with e1
  injection e1 with e1
  omega)
 go_wp2_with fail
 go_loopw [4,5,29] (fun _ _ x wr=>∃(k:Nat) (us':List Value),k≤na∧x=.int .i64 k∧Hid (vT w wr F ⟨.slice A1 F.au.length k1,.slice A3 na k3,.slice A2 F.cls.length k2,.slice Al rs.length kl⟩)∧Hid (wr.ownsRow wB.heap.size 29 1 (.slice A3 na k3) na us')∧Hid (DY w wC.heap.size wr us' F.aI k)∧Hid (Kept [w.heap.size+1] wB wr)∧Hid (wC.heap.size≤wr.heap.size)) (fun _ _ x _=>na - (intOf x).toNat)
 case atStart=>exact⟨0,us,Nat.zero_le _,rfl,VD,VE,HG,Xt,hid (Nat.le_refl _)⟩
 case round =>
 obtain⟨k,us',hk,rfl,JA,HOr,tu,MS,OX⟩:=hrel
 clear Xr HG VD VE
 by_cases hlt:k < na
 ·obtain⟨g,cap,hva,hcap,hg,hgl,hcs,hzs⟩:=uL HOr.o (by omega)
  cases hva
  have hk2:k < F.aI.length:=by have:=VF.o;omega
  have hku:k < us'.length:=by rw [tu.o.1];exact hk2
  have dk:=hcs k us'[k] (List.getElem?_eq_getElem hku)
  have zk:=hzs k
  have hfs:=(tu.o.2 k us'[k] F.aI[k] (List.getElem?_eq_getElem hku) (List.getElem?_eq_getElem hk2)).2 (Nat.le_refl _)
  obtain⟨u,hu⟩:∃u,us'[k]=u:=⟨_,rfl⟩;obtain⟨b,hb⟩:∃b,F.aI[k]=b:=⟨_,rfl⟩;rw [hu] at dk hfs;rw [hb] at hfs;have sw:Hid (F.aI[k]=b):=hid hb
  have hbl:=jr.o.sets b (by rw [←hb];exact List.getElem_mem hk2)
  have hbn:=fZ hbl.1 hbl.2
  have VG:Hid (∀W,Below w.heap.size w W→Calls Tryz.prog 40 #[u] W fun e w'=>∃v',e=.returned v'∧FN W.heap.size w' v' b∧Below W.heap.size W w'):=hid (fun W hW=>kR u b W (hfs.keep hW) (by omega))
  obtain⟨pu,cu,rfl,-⟩:=hfs
  have PX:Hid (∀W,Below wr.heap.size wr W→W.cell? ⟨w.heap.size+1,10,none⟩=some (.slice (some ⟨g,0,none⟩) na k3)):=hid (fun W hW=>(JA.o.below hW).oc 10)
  have hgC:g < wC.heap.size:=HGC.o g rfl (by omega)
  have hkn:(k:Int) < (na:Int):=by omega
  clear hcs hzs hu hb hbl
  go_upto_region 10 with fail
  refine wp_region_held_drew (S:=fun W=>W.cell? ⟨w.heap.size+1,10,none⟩=some (.slice (some ⟨g,0,none⟩) na k3)) (by kernel_rfl) ?_ (fun hHeld=>?_)
  ·exact PX.o _ ah
  refine aA 0 (some 34) hHeld ?_;try simp only [aj]
  refine aA 1 (some 35) hHeld ?_;try simp only [aj]
  refine aA 2 (some 36) hHeld ?_;try simp only [aj]
  refine aA 3 (some 37) hHeld ?_;try simp only [aj]
  refine aP 4 (fun K hK=>?_)
  go_simp
  refine (VG.o _ (JA.o.base.trans ((ah (w:=wr)).mono JA.o.base.size))).mono ?_
  rintro e w8 ⟨v8,rfl,hfn,mQ⟩
  obtain⟨p8,c8,rfl⟩:∃p c,v8=.slice p b.length c:=by obtain⟨p,c,hv,-⟩:=hfn;exact⟨p,c,hv⟩
  have oH:Hid (Below wr.heap.size wr w8):=hid ((ah (w:=wr)).trans mQ);have Gf:=hid hfn;have d8:=(oH.o.cell (p:=⟨g,k,none⟩) hgl).trans dk;have z8:=(oH.o.frozen (p:=⟨g,k,none⟩) hgl).trans zk
  have uf:Hid ((w8.setCell ⟨g,k,none⟩ (.slice p8 b.length c8)).cell? ⟨w.heap.size+1,10,none⟩=some (.slice (some ⟨g,0,none⟩) na k3)):=hid (((JA.o.below oH.o).setRow g k _ (by omega)).oc 10)
  clear hfn mQ
  refine hK.out _ _ ?_ (fun hHeld=>?_)
  ·exact PX.o _ oH.o
  clear hK K
  refine aA 5 (some 39) hHeld ?_;try simp only [aj]
  refine aP 6 (fun K hK=>?_)
  go_simp
  refine hK.out _ _ ?_ (fun hHeld=>?_)
  ·exact uf.o
  clear hK K
  refine wpAnyH_done (by kernel_rfl) ?_ _
  go_wp2_with fail
  go_roundw
  case rel=>exact⟨k+1,us'.set k (.slice p8 b.length c8),by omega,by go_num,hid ((JA.o.below oH.o).setRow g k _ (by omega)),hid (BZ (own_below HOr.o oH.o) k _),hid (((tu.o.kept (Kept.of_below (E:=[]) oH.o) (by simp)).kept (dn _ _ _ _) (by simp;omega)).step hk2 (by rw [sw.o];exact (Gf.o.mono OX.o).kept (dn _ _ _ _) (by simp;omega))),hid ((MS.o.trans (Kept.of_below oH.o)).set _ _ _ (.inr hg)),hid (Nat.le_trans OX.o (by rw [jW];exact oH.o.size))⟩
  case measure=>simp [intOf];omega
 obtain rfl:k=na:=by omega
 have SQ:Hid (∃us:List Value,wr.ownsRow (w.heap.size+2) 29 1 (.slice A3 k k3) F.aI.length us∧us.length=F.aI.length∧∀(j:Nat) u b,us[j]?=some u→F.aI[j]?=some b→FN (w.heap.size+2) wr u b):=hid ⟨us',by
  have:=jg HOr.o YV
  rw [VF.o];exact this,tu.o.1,fun j u b hu hb=>((tu.o.2 j u b hu hb).1 (by
  have h1:=(List.getElem?_eq_some_iff.1 hb).1
  have h2:=VF.o
  omega)).mono (Nat.le_trans YV Xt.o.size)⟩
 have MU:Hid (wr.ownsRow (w.heap.size+2) 145 2 (.slice A1 F.au.length k1) F.au.length (bB F.au)):=hid (eO YS.o MS.o (by simp))
 have SS:Hid (wr.ownsRow (w.heap.size+2) 99 5 (.slice A2 F.cls.length k2) F.cls.length (bG F.cls)):=hid (eO YT.o MS.o (by simp))
 clear Xt SN YS YT HOr tu MS OX YV hnA HGC Md BM oF;obtain⟨wD,hwD⟩:∃W:World,W=wr:=⟨_,rfl⟩;rw [←hwD] at JA SQ MU SS ⊢;clear hwD
 go_upto_region 12 with fail
 go_cut [] from 41 to 44 (fun W=>∃A kk,Hid (vT w W F ⟨.slice A1 F.au.length k1,.slice A3 k k3,.slice A2 F.cls.length k2,.slice A rs.length kk⟩)∧Hid (Kept [w.heap.size+1] wD W)∧Hid (W.ownsRow wD.heap.size 31 7 (.slice A rs.length kk) rs.length (aK rs)))
 case first =>
  have Uy:wD.cell? ⟨w.heap.size+1,12,none⟩=some (.slice Al rs.length kl):=JA.o.oc 12
  go_wp2_with (go_at_call 60;refine (HQ4.o _ JA.o.base).mono ?_;rintro e w3 ⟨v3,rfl,ho⟩;obtain⟨A4,k4,rfl⟩:=aF ho.own;have lK:=hid ho;have Gd:=hid (JA.o.below ho.below);have e12:w3.cell? ⟨w.heap.size+1,12,none⟩=some (.slice Al rs.length kl):=Gd.o.oc 12;have z12:=Gd.o.oz 12;clear ho)
  all_goals go_meet
  all_goals exact⟨A4,k4,hid (Gd.o.B_ 12 _ (by rfl)),hid ((Kept.of_below lK.o.below).set _ _ _ (.inl (by simp))),hid (eO lK.o.own (dn _ _ _ _) (by have:=JA.o.size;simp;omega))⟩
 case rest =>
 obtain⟨A4,k4,VH,Xu,VI⟩:=hcut
 obtain⟨wE,VJ⟩:∃W:World,W=wc:=⟨_,rfl⟩;rw [←VJ] at VH Xu VI ⊢;clear VJ wc HQ4;have Uy:wE.cell? ⟨w.heap.size+1,12,none⟩=some (.slice A4 rs.length k4):=VH.o.oc 12;have hbD:=JA.o.size
 have hnR:rs.length≤65536:=by rw [Xo.o];exact jr.o.rls
 have HG:Hid (DZ w wE.heap.size wE rs 0):=hid (fun j hj=>⟨fun h=>absurd h (Nat.not_lt_zero _),fun _=>Iq.o.2.2 _ (List.getElem_mem hj)⟩)
 have SV:=hid Iq.o.1;have YW:=hid Xu.o.size;obtain⟨nr,hnr⟩:∃n,rs.length=n:=⟨_,rfl⟩;have YX:=hid hnr;rw [hnr] at Uy hnR VH VI
 have HGE:Hid (∀g,A4=some ⟨g,0,none⟩→0 < nr→g < wE.heap.size):=hid (fun g hA hn=>by
  obtain⟨g',cap,hv,-,-,hl,-⟩:=uL VI.o hn
  injection hv with e1
  rw [hA] at e1
  injection e1 with e1
  injection e1 with e1
  omega)
 go_wp2_with fail
 go_loopw [6,48] (fun _ x wr=>∃(m:Nat) (rs':List (Rl×Value)),m≤nr∧x=.int .i64 m∧Hid (rs'.length=nr)∧Hid (vT w wr F ⟨.slice A1 F.au.length k1,.slice A3 k k3,.slice A2 F.cls.length k2,.slice A4 nr k4⟩)∧Hid (wr.ownsRow wD.heap.size 31 7 (.slice A4 nr k4) nr (aK rs'))∧Hid (rs'.map (·.1)=F.rls)∧Hid (DZ w wE.heap.size wr rs' m)∧Hid (Kept [w.heap.size+1] wD wr)∧Hid (wE.heap.size≤wr.heap.size)) (fun _ x _=>nr - (intOf x).toNat)
 case atStart=>exact⟨0,rs,Nat.zero_le _,rfl,YX,VH,VI,SV,HG,Xu,hid (Nat.le_refl _)⟩
 case round =>
 obtain⟨m,rs',hm,rfl,OJ,mh,HOr,Xv,tu,MS,OX⟩:=hrel
 clear Uy HG VH VI SV Xu
 by_cases hlt:m < nr
 ·obtain⟨g,cap,hva,hcap,hg,hgl,hcs,hzs⟩:=uL HOr.o (by omega)
  cases hva
  have hmu:m < rs'.length:=by rw [OJ.o];exact hlt
  obtain⟨-,-,-,-,-,-,q6⟩:=Ca rs' m hmu;have dk:=hcs _ _ q6;have zk:=hzs (m*7+6);have hfs:=(tu.o m hmu).2 (Nat.le_refl _);obtain⟨r,hr⟩:∃r,rs'[m]=r:=⟨_,rfl⟩;obtain⟨r1,u⟩:=r;rw [hr] at dk hfs;dsimp only at dk hfs;have HRk:Hid (rs'[m]=(r1,u)):=hid hr
  have hin:r1∈F.rls:=by
   rw [←Xv.o]
   exact List.mem_map.2 ⟨rs'[m],List.getElem_mem hmu,by rw [hr]⟩
  have hbl:=jr.o.nexts r1 hin;have hbn:=fZ hbl.1 hbl.2;obtain⟨b,hb⟩:∃b,r1.next=b:=⟨_,rfl⟩;rw [hb] at hfs hbn;have sw:=hid hb
  have VG:Hid (∀W,Below w.heap.size w W→Calls Tryz.prog 40 #[u] W fun e w'=>∃v',e=.returned v'∧FN W.heap.size w' v' b∧Below W.heap.size W w'):=hid (fun W hW=>kR u b W (hfs.keep hW) (by omega))
  obtain⟨pu,cu,rfl,-⟩:=hfs
  have PX:Hid (∀W,Below wr.heap.size wr W→W.cell? ⟨w.heap.size+1,12,none⟩=some (.slice (some ⟨g,0,none⟩) nr k4)):=hid (fun W hW=>(mh.o.below hW).oc 12)
  have hgE:g < wE.heap.size:=HGE.o g rfl (by omega)
  have hmn:(m:Int) < (nr:Int):=by omega
  clear hcs hzs hr hb hbl hin q6
  go_upto_region 16 with fail
  refine wp_region_held_drew (S:=fun W=>W.cell? ⟨w.heap.size+1,12,none⟩=some (.slice (some ⟨g,0,none⟩) nr k4)) (by kernel_rfl) ?_ (fun hHeld=>?_)
  ·exact PX.o _ ah
  refine aA 0 (some 51) hHeld ?_;try simp only [aj]
  refine aA 1 (some 52) hHeld ?_;try simp only [aj]
  refine aA 2 (some 53) hHeld ?_;try simp only [aj]
  refine aA 3 (some 54) hHeld ?_;try simp only [aj]
  refine aA 4 (some 55) hHeld ?_;try simp only [aj]
  refine aA 5 (some 56) hHeld ?_;try simp only [aj]
  refine aA 6 (some 57) hHeld ?_;try simp only [aj]
  refine aA 7 (some 58) hHeld ?_;try simp only [aj]
  refine aP 8 (fun K hK=>?_)
  go_simp
  refine hK.out _ _ ?_ (fun hHeld=>?_)
  ·first | exact PX.o _ ah | exact uf.o
  clear hK K
  refine aP 9 (fun K hK=>?_)
  go_simp
  refine (VG.o _ (mh.o.base.trans ((ah (w:=wr)).mono mh.o.base.size))).mono ?_
  rintro e w8 ⟨v8,rfl,hfn,mQ⟩
  obtain⟨p8,c8,rfl⟩:∃p c,v8=.slice p b.length c:=by obtain⟨p,c,hv,-⟩:=hfn;exact⟨p,c,hv⟩
  have oH:Hid (Below wr.heap.size wr w8):=hid ((ah (w:=wr)).trans mQ);have Gf:=hid hfn;have d8:=(oH.o.cell (p:=⟨g,m*7+6,none⟩) hgl).trans dk;have z8:=(oH.o.frozen (p:=⟨g,m*7+6,none⟩) hgl).trans zk
  have uf:Hid ((w8.setCell ⟨g,m*7+6,none⟩ (.slice p8 b.length c8)).cell? ⟨w.heap.size+1,12,none⟩=some (.slice (some ⟨g,0,none⟩) nr k4)):=hid (((mh.o.below oH.o).setRow g (m*7+6) _ (by omega)).oc 12)
  clear hfn mQ
  refine hK.out _ _ ?_ (fun hHeld=>?_)
  ·exact PX.o _ oH.o
  clear hK K
  refine aA 10 (some 61) hHeld ?_;try simp only [aj]
  refine aA 11 (some 62) hHeld ?_;try simp only [aj]
  refine aP 12 (fun K hK=>?_)
  go_simp
  refine hK.out _ _ ?_ (fun hHeld=>?_)
  ·first | exact PX.o _ ah | exact uf.o
  clear hK K
  refine wpAnyH_done (by kernel_rfl) ?_ _
  go_wp2_with fail
  go_roundw
  case rel=>exact⟨m+1,rs'.set m (rs'[m].1,.slice p8 b.length c8),by omega,by go_num,hid (by rw [List.length_set];exact OJ.o),hid ((mh.o.below oH.o).setRow g (m*7+6) _ (by omega)),hid (by rw [←IG rs' m hmu];exact BZ (own_below HOr.o oH.o) (m*7+6) _),hid (by rw [DX rs' m hmu];exact Xv.o),hid (((tu.o.kept (Kept.of_below (E:=[]) oH.o) (by simp)).kept (dn _ _ _ _) (by simp;omega)).step hmu (by rw [HRk.o,sw.o];exact (Gf.o.mono OX.o).kept (dn _ _ _ _) (by simp;omega))),hid ((MS.o.trans (Kept.of_below oH.o)).set _ _ _ (.inr hg)),hid (Nat.le_trans OX.o (by rw [jW];exact oH.o.size))⟩
  case measure=>simp [intOf];omega
 obtain rfl:m=nr:=by omega
 have rP:Hid (tq (w.heap.size+2) wr F ⟨.slice A1 F.au.length k1,.slice A3 k k3,.slice A2 F.cls.length k2,.slice A4 m k4⟩):=hid (by
  obtain⟨ua,a1,a2,a3⟩:=SQ.o
  refine⟨eO MU.o MS.o (by simp),⟨ua,eO a1 MS.o (by simp),a2,fun j u b hu hb=>(a3 j u b hu hb).kept MS.o (by simp)⟩,eO SS.o MS.o (by simp),rs',Xv.o,?_,fun r hr=>?_⟩
  ·rw [OJ.o];exact jg HOr.o hbD
  obtain⟨j,hj,rfl⟩:=List.mem_iff_getElem.1 hr
  exact ((tu.o j hj).1 (by have:=OJ.o;omega)).mono (Nat.le_trans hbD YW.o))
 clear SQ MU SS HOr Xv tu MS OX OJ;have x0:wr.cell? ⟨w.heap.size+1,0,none⟩=some (.int .i64 F.kind):=mh.o.oc 0;have x1:wr.cell? ⟨w.heap.size+1,1,none⟩=some (.string F.charset):=mh.o.oc 1;have x2:wr.cell? ⟨w.heap.size+1,2,none⟩=some (.string F.qI):=mh.o.oc 2;have x3:wr.cell? ⟨w.heap.size+1,3,none⟩=some (.int .u16 F.s0):=mh.o.oc 3;have x4:wr.cell? ⟨w.heap.size+1,4,none⟩=some (.int .u16 F.s1):=mh.o.oc 4;have x5:wr.cell? ⟨w.heap.size+1,5,none⟩=some (.int .u16 F.s2):=mh.o.oc 5;have x6:wr.cell? ⟨w.heap.size+1,6,none⟩=some (.int .u16 F.s3):=mh.o.oc 6;have x7:wr.cell? ⟨w.heap.size+1,7,none⟩=some (.int .u16 F.s4):=mh.o.oc 7;have x8:wr.cell? ⟨w.heap.size+1,8,none⟩=some (.int .i64 F.least):=mh.o.oc 8;have x9:wr.cell? ⟨w.heap.size+1,9,none⟩=some (.slice A1 F.au.length k1):=mh.o.oc 9;have x10:wr.cell? ⟨w.heap.size+1,10,none⟩=some (.slice A3 k k3):=mh.o.oc 10;have x11:wr.cell? ⟨w.heap.size+1,11,none⟩=some (.slice A2 F.cls.length k2):=mh.o.oc 11;have x12:wr.cell? ⟨w.heap.size+1,12,none⟩=some (.slice A4 m k4):=mh.o.oc 12;have hz:=cell_of_heap mh.o.res;have z0:=hz 0;have z1:=hz 1;have z2:=hz 2;have z3:=hz 3;have z4:=hz 4;have z5:=hz 5;have z6:=hz 6;have z7:=hz 7;have z8:=hz 8;have z9:=hz 9;have YU:=hz 10;have VB:=hz 11;have z12:=hz 12
 simp only [List.getElem?_toArray,List.getElem?_cons_zero,List.getElem?_cons_succ] at z0 z1 z2 z3 z4 z5 z6 z7 z8 z9 YU VB z12
 have hy:=frozen_of_heap mh.o.res;have y0:=hy 0;have y1:=hy 1;have y2:=hy 2;have y3:=hy 3;have y4:=hy 4;have y5:=hy 5;have y6:=hy 6;have y7:=hy 7;have y8:=hy 8;have y9:=hy 9;have y10:=hy 10;have y11:=hy 11;have y12:=hy 12;clear hz hy
 go_wp2_with fail
 refine bodyPost_ret (v:=J2 F ⟨.slice A1 F.au.length k1,.slice A3 k k3,.slice A2 F.cls.length k2,.slice A4 m k4⟩) (by simp [results,Tryz.results30,go_sem,z0,z1,z2,z3,z4,z5,z6,z7,z8,z9,YU,VB,z12,J2,zA];try rfl) rfl ?_
 refine⟨_,rfl,(rP.o.kept (X:=[w.heap.size]) ?_ (by simp)).mono (by omega),?_⟩
 ·exact (((((((((((((Kept.refl _ wr).set _ _ _ (.inl (by simp))).set _ _ _ (.inl (by simp))).set _ _ _ (.inl (by simp))).set _ _ _ (.inl (by simp))).set _ _ _ (.inl (by simp))).set _ _ _ (.inl (by simp))).set _ _ _ (.inl (by simp))).set _ _ _ (.inl (by simp))).set _ _ _ (.inl (by simp))).set _ _ _ (.inl (by simp))).set _ _ _ (.inl (by simp))).set _ _ _ (.inl (by simp))).set _ _ _ (.inl (by simp))
 exact (((((((((((((mh.o.base).setCell (by simp) _).setCell (by simp) _).setCell (by simp) _).setCell (by simp) _).setCell (by simp) _).setCell (by simp) _).setCell (by simp) _).setCell (by simp) _).setCell (by simp) _).setCell (by simp) _).setCell (by simp) _).setCell (by simp) _).setCell (by simp) _
def VK (r:Except Int En) (w:World) (e:Ending) (w':World):Prop:=Below w.heap.size w w'∧match r with
 | .error c=>e=.returned (.tuple #[.agg #[.string ⟨#[]⟩,.slice none 0 0],.int .i64 c])
 | .ok x=>∃v,e=.returned (.tuple #[.agg #[.string x.1,v],.int .i64 0])∧FN w.heap.size w' v x.2
structure EW (w W:World) (F:Fl) (l:Int) (fv:Value):Prop where
 base:Below w.heap.size w W
 spec:W.heap[w.heap.size]?=some (.cells #[.int .u16 F.s0,.int .u16 F.s1,.int .u16 F.s2,.int .u16 F.s3,.int .u16 F.s4] 77 (0,0))
 row:W.heap[w.heap.size+1]?=some (.cells #[.int .i64 l,fv] 133 (0,0))
 res:W.heap[w.heap.size+2]?=some (.cells #[.string ⟨#[]⟩,.slice none 0 0] 35 (0,0))
section
variable {w W W':World} {F:Fl} {l:Int} {fv:Value}
theorem EW.start (w:World) (F:Fl) (l:Int) (fv:Value):EW w (((w.alloc (.cells #[.int .u16 F.s0,.int .u16 F.s1,.int .u16 F.s2,.int .u16 F.s3,.int .u16 F.s4] 77)).alloc (.cells #[.int .i64 l,fv] 133)).alloc (.cells #[.string ⟨#[]⟩,.slice none 0 0] 35)) F l fv:=by
 obtain⟨w1,hw1⟩:∃W,w.alloc (.cells #[.int .u16 F.s0,.int .u16 F.s1,.int .u16 F.s2,.int .u16 F.s3,.int .u16 F.s4] 77)=W:=⟨_,rfl⟩
 have s1:w1.heap.size=w.heap.size+1:=by rw [←hw1];simp
 have b1:Below w.heap.size w w1:=by rw [←hw1];exact (Below.refl _ _).alloc (Nat.le_refl _) _
 have f1:w1.heap[w.heap.size]?=some (.cells #[.int .u16 F.s0,.int .u16 F.s1,.int .u16 F.s2,.int .u16 F.s3,.int .u16 F.s4] 77 (0,0)):=by rw [←hw1];exact heap_alloc_new w _
 rw [hw1];obtain⟨w2,hw2⟩:∃W,w1.alloc (.cells #[.int .i64 l,fv] 133)=W:=⟨_,rfl⟩
 have s2:w2.heap.size=w.heap.size+2:=by rw [←hw2];simp [s1]
 have b2:Below w1.heap.size w1 w2:=by rw [←hw2];exact (Below.refl _ _).alloc (Nat.le_refl _) _
 have f2:w2.heap[w.heap.size+1]?=some (.cells #[.int .i64 l,fv] 133 (0,0)):=by rw [←hw2,←s1];exact heap_alloc_new w1 _
 rw [hw2];have b3:Below w2.heap.size w2 (w2.alloc (.cells #[.string ⟨#[]⟩,.slice none 0 0] 35)):=(Below.refl _ _).alloc (Nat.le_refl _) _
 exact⟨(b1.trans (b2.mono (by omega))).trans (b3.mono (by omega)),(b3.block _ (by omega)).trans ((b2.block _ (by omega)).trans f1),(b3.block _ (by omega)).trans f2,by rw [←s2];exact heap_alloc_new w2 _⟩
theorem EW.size (h:EW w W F l fv):w.heap.size+3≤W.heap.size:=block_lt h.res
theorem EW.below (h:EW w W F l fv) (hb:Below W.heap.size W W'):EW w W' F l fv :=
 ⟨h.base.trans (hb.mono h.base.size),(hb.block _ (block_lt h.spec)).trans h.spec,(hb.block _ (block_lt h.row)).trans h.row,(hb.block _ (block_lt h.res)).trans h.res⟩
theorem EW.r0 (h:EW w W F l fv):W.cell? ⟨w.heap.size+2,0,none⟩=some (.string ⟨#[]⟩):=cell_of_heap h.res 0
theorem EW.r1 (h:EW w W F l fv):W.cell? ⟨w.heap.size+2,1,none⟩=some (.slice none 0 0):=cell_of_heap h.res 1
theorem EW.z (h:EW w W F l fv) (j:Nat):W.frozen? ⟨w.heap.size+2,j,none⟩=false:=frozen_of_heap h.res j
theorem EW.f1 (h:EW w W F l fv):W.cell? ⟨w.heap.size+1,1,none⟩=some fv:=cell_of_heap h.row 1
theorem EW.fs (h:EW w W F l fv):FS W (.slice (some ⟨w.heap.size,0,none⟩) 5 5) [F.s0,F.s1,F.s2,F.s3,F.s4] :=
 ⟨_,5,rfl,by simp,.inr ⟨w.heap.size,0,rfl,fun j hj=>by
  rw [Nat.zero_add,cell_of_heap h.spec]
  rcases j with _ | _ | _ | _ | _ | j
  all_goals first | rfl | (simp only [List.length_cons,List.length_nil] at hj;omega)⟩⟩
theorem EW.done (h:EW w W F l fv) (u v:Value):Below w.heap.size w ((W.setCell ⟨w.heap.size+2,0,none⟩ u).setCell ⟨w.heap.size+2,1,none⟩ v):=(h.base.setCell (by simp) _).setCell (by simp) _
end
theorem gu.VL {w:World} {fb:Nat} {F:Fl} (h:gu w fb F) (hok:iU F):∃av us,xW w fb F.kind av us F.aI:=by
 obtain⟨i,v,n,h0,h1,-,-,⟨us,h2,h3,h4⟩,-⟩:=h.mem
 exact⟨v.aI,us,by rw [cell_of_heap h1];rfl,by rw [cell_of_heap h1];rfl,h2,h4,fun a ha=>⟨(hok.sets a ha).1,fZ (hok.sets a ha).1 (hok.sets a ha).2⟩⟩
theorem gu.VN {w:World} {fb:Nat} {F:Fl} (h:gu w fb F):J3 w fb F.cls:=by
 obtain⟨i,v,n,h0,h1,h2,-,-,h3,-⟩:=h.mem
 exact⟨⟨i.mb,n,by rw [cell_of_heap h1];rfl,h2⟩,⟨v.cls,by rw [cell_of_heap h1];rfl,h3⟩⟩
theorem J4 (fb:Nat) (F:Fl) (s:ByteArray) (m0:Int) (w:World) (h:gu w fb F) (hok:iU F) (hs:s.size≤1048576) (hm:w.cell? ⟨0,0,none⟩=some (.int .i64 m0)) :
  Calls Tryz.prog 34 #[.pointer (some ⟨fb,0,none⟩),.string s] w fun e w'=>∃v,e=.returned (.tuple #[v,.int .i64 (aQ F s).2])∧FN w.heap.size w' v (aQ F s).1∧Below w.heap.size w w':=by
 obtain⟨av,us,hf⟩:=h.VL hok
 have:=tC fb F.kind m0 av us F.aI s w hf hok.aI (by omega) hm
 rw [←Az] at this
 exact this
theorem D5 (F:Fl) (x:Int):aM F x=((F.cls.find? (fun c=>c.flag==x)).isSome||[F.s0,F.s1,F.s2,F.s3,F.s4].contains x):=by
 unfold aM iF
 simp only [List.contains_cons,List.contains_nil,Bool.or_false,Bool.beq_comm]
 have hc:∀a:Int,(x==a)=(a==x):=fun a=>Bool.beq_comm ..
 simp only [hc]
 cases (F.cls.find? (fun c=>c.flag==x)).isSome<;>simp [Bool.or_assoc]
theorem J5 (fb:Nat) (F:Fl) (l:Int) (fv:Value) (row:List ByteArray) (m0:Int) (w:World) (hf:gu w fb F) (hok:iU F) (hr:Rd w 1 fv row.length (bn row)) (hs:∀j,(fieldAt row j).size≤65536) (hn:row.length≤9223372036854775807)
  (hm:w.cell? ⟨0,0,none⟩=some (.int .i64 m0)) :
  Calls Tryz.prog 50 #[.pointer (some ⟨fb,0,none⟩),.agg #[.int .u16 F.s0,.int .u16 F.s1,.int .u16 F.s2,.int .u16 F.s3,.int .u16 F.s4],.agg #[.int .i64 l,fv]] w (VK (jy F row) w):=by
 obtain⟨-,A,cp,rfl,hcap,hcells⟩:=hr
 have HE:=hid (EW.start w F l (.slice A row.length cp));obtain⟨wA,BR⟩:∃W,(((w.alloc (.cells #[.int .u16 F.s0,.int .u16 F.s1,.int .u16 F.s2,.int .u16 F.s3,.int .u16 F.s4] 77)).alloc (.cells #[.int .i64 l,.slice A row.length cp] 133)).alloc (.cells #[.string ⟨#[]⟩,.slice none 0 0] 35))=W:=⟨_,rfl⟩;rw [BR] at HE
 have vg:Hid (∀W s,Below w.heap.size w W→s.size≤1048576→Calls Tryz.prog 34 #[.pointer (some ⟨fb,0,none⟩),.string s] W fun e w'=>∃v,e=.returned (.tuple #[v,.int .i64 (aQ F s).2])∧FN W.heap.size w' v (aQ F s).1∧Below W.heap.size W w'):=hid (fun W s hW h=>J4 fb F s m0 W (hf.keep hW) hok h ((hW.cell (block_lt_of_cell? _ _ hm)).trans hm))
 have oF:Hid (∀W x,Below w.heap.size w W→0≤x∧x≤65535→Calls Tryz.prog 38 #[.pointer (some ⟨fb,0,none⟩),.int .u16 x] W fun e w'=>e=.returned (MV (F.cls.find? (fun c=>c.flag==x)))∧Below W.heap.size W w'):=hid (fun W x hW hx=>xX fb F.cls x W (hf.VN.later hW) hx hok.cls)
 have jr:=hid hok;have e1:=HE.o.f1;have q0:=HE.o.r0;have q1:=HE.o.r1;have y0:=HE.o.z 0;have y1:=HE.o.z 1
 by_cases h1:row.length=1
 ·obtain⟨g,o,rfl,hc⟩:=hcells.resolve_left (by omega)
  have hx:(bn row)[0]?=some (.string (fieldAt row 0)):=by
   match row,h1 with
   | [f],_=>rfl
  have c1:=hc 0 _ hx;rw [Nat.add_zero] at c1;have d1:=(HE.o.base.cell (block_lt_of_cell? _ _ c1)).trans c1;have hfs:=hs 0
  have hx2:jy F row=match eB (fieldAt row 0).data.toList with | (w,rest,cut,e)=>if e≠0 then .error e else gy F w rest cut:=by rw [jy,if_neg (by omega)]
  have su:Hid (∀W,Calls Tryz.prog 84 #[.string (fieldAt row 0)] W fun e w'=>e=.returned (jY (eB (fieldAt row 0).data.toList))∧Below W.heap.size W w'):=hid (fun W=>xY (fieldAt row 0) W (by omega))
  have hwl:=iM (fieldAt row 0).data.toList;obtain⟨⟨wd,rest,cut,ec⟩,hwr⟩:∃r,eB (fieldAt row 0).data.toList=r:=⟨_,rfl⟩;rw [hwr] at su hx2 hwl;unfold jY at su;dsimp only at su hx2 hwl
  have hl1:wd.length≤65536∧rest.length≤65536:=by have e:(fieldAt row 0).data.toList.length=(fieldAt row 0).size:=(by simp);omega
  obtain⟨hl1,hl2⟩:=hl1;obtain⟨R,hR⟩:∃R,jy F row=R:=⟨_,rfl⟩;rw [hR] at hx2 ⊢;rw [h1] at e1 hcap
  generalize fieldAt row 0=f at *
  clear hcells hc hx c1 hs hn h1 hwl hwr hR hfs hm hf hok
  by_cases SX:ec=0
  ·subst SX
   rw [if_neg (by simp)] at hx2
   have hsz:(mkS wd).size=wd.length:=aG wd
   have hrs:(mkS rest).size≤1048576:=by rw [aG];omega
   have Dw:Hid (wd=[]→R=.error 21):=hid (fun h=>by rw [hx2,gy,if_pos (.inl h)])
   have Uz:Hid (fitAll (mkS wd)=false→R=.error 21):=hid (fun h=>by rw [hx2,gy,if_pos (.inr h)])
   have Xw:Hid (wd≠[]→fitAll (mkS wd)=true→64 < wd.length→R=.error 22):=hid (fun h h2 h3=>by rw [hx2,gy,if_neg (by rw [h2];simp [h]),if_pos h3])
   have Xx:Hid (wd≠[]→fitAll (mkS wd)=true→¬64 < wd.length→cut=false→R=.ok (mkS wd,[])):=hid (fun h h2 h3 h4=>by rw [hx2,gy,if_neg (by rw [h2];simp [h]),if_neg h3,if_pos h4])
   have Rm:Hid (wd≠[]→fitAll (mkS wd)=true→¬64 < wd.length→cut=true→R=if (aQ F (mkS rest)).2≠0 then .error (aQ F (mkS rest)).2 else if (aQ F (mkS rest)).1.all (aM F)=true then .ok (mkS wd,(aQ F (mkS rest)).1) else .error 120):=hid (fun h h2 h3 h4=>by rw [hx2,gy,if_neg (by rw [h2];simp [h]),if_neg h3,if_neg (by rw [h4];simp),nJ])
   have YZ:Hid (wd=[]→mkS wd=⟨#[]⟩):=hid (fun h=>by rw [h];rfl)
   have MW:=qB F (mkS rest) (fun a ha=>(jr.o.sets a ha).2)
   have Cb:=fZ (kP F (mkS rest) (fun a ha=>(jr.o.sets a ha).1)) MW
   have BN:Hid (∀W,Below w.heap.size w W→Calls Tryz.prog 34 #[.pointer (some ⟨fb,0,none⟩),.string (mkS rest)] W fun e w'=>∃v,e=.returned (.tuple #[v,.int .i64 (aQ F (mkS rest)).2])∧FN W.heap.size w' v (aQ F (mkS rest)).1∧Below W.heap.size W w'):=hid (fun W hW=>vg.o W _ hW hrs)
   obtain⟨⟨zs,fc⟩,hz⟩:∃r,aQ F (mkS rest)=r:=⟨_,rfl⟩;rw [hz] at Rm BN MW Cb;dsimp only at Rm BN MW Cb
   generalize mkS rest=rs at *
   generalize mkS wd=s at *
   have zy:=hid MW;clear hx2 hrs hz vg hl2 MW jr
   go_enter Tryz.func50,Tryz.ntmps50
   go_wp2_with (go_at_call 84;refine (su.o _).mono ?_;rintro e w2 ⟨rfl,hb⟩;have HE2:=hid (HE.o.below hb);clear hb q0 q1 y0 y1)
   have q0:=HE2.o.r0;have q1:=HE2.o.r1;have y0:=HE2.o.z 0;have y1:=HE2.o.z 1
   go_loop [12,39] (fun _ i=>∃k:Nat,k≤s.size∧i=.int .i64 k∧Hid ((s.data.toList.take k).all lC=true)) (fun _ i=>s.size - (intOf i).toNat)
   case atStart=>exact⟨0,Nat.zero_le _,rfl,hid rfl⟩
   case round =>
   obtain⟨k,hk,rfl,HT⟩:=hrel
   by_cases hlt:k < s.size
   ·cases Fp:lC s[k]
    ·have HN:=hid (Uz.o (xZ s k hlt Fp))
     have HF:=hid Fp;clear Fp
     go_wp2_with (go_at_call 85;refine (qC s k hlt _).mono ?_;rw [HF.o];rintro e w' ⟨rfl,rfl⟩)
     refine bodyPost_ret (v:=.tuple #[.agg #[.string ⟨#[]⟩,.slice none 0 0],.int .i64 21]) (by simp [results,Tryz.results50,go_sem,q0,q1];try rfl) rfl ?_
     rw [HN.o]
     exact⟨HE2.o.done _ _,rfl⟩
    have HN:=hid (pI s k hlt Fp HT.o);have HF:=hid Fp;clear Fp
    go_wp2_with (go_at_call 85;refine (qC s k hlt _).mono ?_;rw [HF.o];rintro e w' ⟨rfl,rfl⟩)
    go_roundw
    case rel=>exact⟨k+1,by omega,by go_num,HN⟩
    case measure=>simp [intOf];omega
   obtain rfl:k=s.size:=by omega
   have Pp:=hid (pJ s HT.o)
   by_cases h0:wd=[]
   ·have HN:=hid (Dw.o h0)
    have hse:=YZ.o h0
    subst hse
    clear h0
    go_wp2_with fail
    refine bodyPost_ret (v:=.tuple #[.agg #[.string ⟨#[]⟩,.slice none 0 0],.int .i64 21]) (by simp [results,Tryz.results50,go_sem,q0,q1];try rfl) rfl ?_
    rw [HN.o]
    exact⟨HE2.o.done _ _,rfl⟩
   have hne:=iY s (by have:=List.length_pos_iff.2 h0;omega)
   have H0:=hid h0
   by_cases h64:64 < s.size
   ·have SY:(64:Int) < (s.size:Int):=by omega
    have HN:=hid (Xw.o h0 Pp.o (by omega))
    clear h0
    go_wp2_with fail
    refine bodyPost_ret (v:=.tuple #[.agg #[.string ⟨#[]⟩,.slice none 0 0],.int .i64 22]) (by simp [results,Tryz.results50,go_sem,q0,q1];try rfl) rfl ?_
    rw [HN.o]
    exact⟨HE2.o.done _ _,rfl⟩
   have SY:¬(64:Int) < (s.size:Int):=by omega
   cases cut
   ·have HN:=hid (Xx.o h0 Pp.o (by omega) rfl)
    clear h0
    go_wp2_with fail
    refine bodyPost_ret (v:=.tuple #[.agg #[.string s,.slice none 0 0],.int .i64 0]) (by simp [results,Tryz.results50,go_sem,q0,q1];try rfl) rfl ?_
    rw [HN.o]
    exact⟨HE2.o.done _ _,_,rfl,FN.nil _ _ _ _⟩
   have HG:=hid (Rm.o h0 Pp.o (by omega) rfl)
   clear h0 q0 q1 y0 y1
   go_wp2_with fail
   refine (BN.o w2 HE2.o.base).mono ?_
   rintro e w3 ⟨v3,rfl,hfn,hb3⟩
   have J6:=hid (HE2.o.below hb3);have Gf:=hid hfn
   obtain⟨p3,c3,rfl⟩:∃p c,v3=.slice p zs.length c:=by obtain⟨p,c,hv,-⟩:=hfn;exact⟨p,c,hv⟩
   clear hfn hb3;have q0:=J6.o.r0;have q1:=J6.o.r1;have y0:=J6.o.z 0;have y1:=J6.o.z 1
   by_cases hfc:fc=0
   ·subst hfc
    rw [if_neg (by simp)] at HG
    clear q0 q1 y0 y1
    go_wp2_with fail
    go_loopw [15,17,77] (fun _ _ i wr=>∃k:Nat,k≤zs.length∧i=.int .i64 k∧Hid (Below w3.heap.size w3 wr)∧Hid (∀j (hj:j < zs.length),j < k→aM F zs[j]=true)) (fun _ _ i _=>zs.length - (intOf i).toNat)
    case atStart=>exact⟨0,Nat.zero_le _,rfl,hid (Below.refl _ _),hid (fun j _ hj=>absurd hj (Nat.not_lt_zero _))⟩
    case round =>
    obtain⟨k2,hk2,rfl,sw,HD⟩:=hrel
    have D6:=hid (J6.o.below sw.o)
    by_cases hlz:k2 < zs.length
    ·obtain⟨p',c',hv,hcp,hrow⟩:=Gf.o.fs
     cases hv
     obtain⟨g2,o2,rfl,hc2⟩:=hrow.resolve_left (by omega)
     have c2:=hc2 k2 hlz
     have e2:zs.getD k2 0=zs[k2]:=by simp [List.getD,hlz]
     rw [e2] at c2;have d2:=(sw.o.cell (block_lt_of_cell? _ _ c2)).trans c2;obtain⟨b0,b1⟩:=zy.o zs[k2] (List.getElem_mem hlz);have VO:=hid (D5 F zs[k2]);have F9:=hid (oF.o wr zs[k2] D6.o.base ⟨b0,b1⟩)
     have OW:Hid (aM F zs[k2]=true→∀j (hj:j < zs.length),j < k2+1→aM F zs[j]=true):=hid (fun he j hj hjk=>by
      by_cases e:j=k2
      ·subst e;exact he
      exact HD.o j hj (by omega))
     have mX:Hid (aM F zs[k2]=false→R=.error 120):=hid (fun he=>by
      rw [HG.o,if_neg]
      intro ha
      rw [List.all_eq_true.1 ha _ (List.getElem_mem hlz)] at he
      cases he)
     generalize zs[k2]=x at *
     unfold MV MX at F9
     generalize F.cls.find? (fun c=>c.flag==x)=oc at *
     clear c2 e2 hc2 hrow hcp
     cases oc with
     | some c =>
      dsimp only [Option.getD_some,Option.isSome_some,Bool.true_or] at F9 VO
      have VP:=hid (OW.o VO.o)
      go_wp2_with (go_at_call 38;refine F9.o.mono ?_;rintro e w5 ⟨rfl,hb5⟩;have jK:=hid (sw.o.trans (hb5.mono sw.o.size));clear hb5)
      go_roundw
      case rel=>exact⟨k2+1,by omega,by go_num,hid (jK.o.alloc jK.o.size _),VP⟩
      case measure=>simp [intOf];omega
     | none =>
      dsimp only [Option.getD_none,Option.isSome_none,Bool.false_or,xq] at F9 VO
      have HCt:Hid (∀W,Below wr.heap.size wr W→Calls Tryz.prog 86 #[.slice (some ⟨w.heap.size,0,none⟩) 5 5,.int .u16 x] W fun e w'=>e=.returned (.bool ([F.s0,F.s1,F.s2,F.s3,F.s4].contains x))∧w'=W):=hid (fun W hW=>BX _ _ x W (D6.o.below hW).fs (by simp))
      generalize [F.s0,F.s1,F.s2,F.s3,F.s4].contains x=ct at *
      go_wp2_with fail
      refine F9.o.mono ?_
      rintro e w5 ⟨rfl,hb5⟩
      have Sk:=hid (hb5.alloc hb5.size (.cells #[.int .u16 0,.int .i64 0,.bool false,.int .i64 0,.int .i64 0] 99));have Li:=hid (HCt.o _ Sk.o);have FX:=hid (D6.o.below Sk.o);clear hb5
      cases ct
      ·have HN:=hid (mX.o VO.o)
       have q0:=FX.o.r0;have q1:=FX.o.r1;have y0:=FX.o.z 0;have y1:=FX.o.z 1
       go_wp2_with (go_at_call 86;refine Li.o.mono ?_;rintro e w6 ⟨rfl,rfl⟩)
       refine bodyPost_ret (v:=.tuple #[.agg #[.string ⟨#[]⟩,.slice none 0 0],.int .i64 120]) (by simp [results,Tryz.results50,go_sem,q0,q1];try rfl) rfl ?_
       rw [HN.o]
       exact⟨FX.o.done _ _,rfl⟩
      have VP:=hid (OW.o VO.o)
      go_wp2_with (go_at_call 86;refine Li.o.mono ?_;rintro e w6 ⟨rfl,rfl⟩)
      go_roundw
      case rel=>exact⟨k2+1,by omega,by go_num,hid (sw.o.trans (Sk.o.mono sw.o.size)),VP⟩
      case measure=>simp [intOf];omega
    obtain rfl:k2=zs.length:=by omega
    have HN:Hid (R=.ok (s,zs)):=hid (by
     rw [HG.o,if_pos]
     rw [List.all_eq_true]
     intro x hx
     obtain⟨j,hj,rfl⟩:=List.mem_iff_getElem.1 hx
     exact HD.o j hj hj)
    have q0:=D6.o.r0;have q1:=D6.o.r1;have y0:=D6.o.z 0;have y1:=D6.o.z 1
    have HFk:Hid (∀u v,FN w.heap.size ((wr.setCell ⟨w.heap.size+2,0,none⟩ u).setCell ⟨w.heap.size+2,1,none⟩ v) (.slice p3 zs.length c3) zs):=hid (fun u v=>(Gf.o.kept (X:=[w.heap.size+2]) (((Kept.of_below sw.o).set _ _ _ (.inl (by simp))).set _ _ _ (.inl (by simp))) (by intro x hx;have:=HE2.o.size;simp at hx;omega)).mono (by have:=HE2.o.size;omega))
    go_wp2_with fail
    refine bodyPost_ret (v:=.tuple #[.agg #[.string s,.slice p3 zs.length c3],.int .i64 0]) (by simp [results,Tryz.results50,go_sem,q0,q1];try rfl) rfl ?_
    rw [HN.o]
    exact⟨D6.o.done _ _,_,rfl,HFk.o _ _⟩
   have hf1:(fc != 0)=true:=by rw [bne_iff_ne];exact hfc
   rw [if_pos hfc] at HG
   go_wp2_with fail
   refine bodyPost_ret (v:=.tuple #[.agg #[.string ⟨#[]⟩,.slice none 0 0],.int .i64 fc]) (by simp [results,Tryz.results50,go_sem,q0,q1];try rfl) rfl ?_
   rw [HG.o]
   exact⟨J6.o.done _ _,rfl⟩
  have Y0:(ec != 0)=true:=by rw [bne_iff_ne];exact SX
  rw [if_pos SX] at hx2
  subst hx2
  go_enter Tryz.func50,Tryz.ntmps50
  go_wp2_with (go_at_call 84;refine (su.o _).mono ?_;rintro e w2 ⟨rfl,hb⟩;have HE2:=hid (HE.o.below hb);clear hb q0 q1 y0 y1;have q0:=HE2.o.r0;have q1:=HE2.o.r1;have y0:=HE2.o.z 0;have y1:=HE2.o.z 1)
  refine bodyPost_ret (v:=.tuple #[.agg #[.string ⟨#[]⟩,.slice none 0 0],.int .i64 ec]) (by simp [results,Tryz.results50,go_sem,q0,q1];try rfl) rfl ?_
  exact⟨HE2.o.done _ _,rfl⟩
 have h1':((row.length:Int) != 1)=true:=by rw [bne_iff_ne];omega
 have HX:Hid (jy F row=.error 111):=hid (by rw [jy,if_pos h1])
 rw [HX.o];clear hcells hs h1 HX hm hf hok
 go_enter Tryz.func50,Tryz.ntmps50
 go_wp2_with fail
 refine bodyPost_ret (v:=.tuple #[.agg #[.string ⟨#[]⟩,.slice none 0 0],.int .i64 111]) (by simp [results,Tryz.results50,go_sem,q0,q1];try rfl) rfl ?_
 exact⟨HE.o.done _ _,rfl⟩
theorem IO.later {w w':World} {L:List Nat} {v:Value} {zs:List Int} (h:IO w L v zs) (hb:Below w.heap.size w w'):IO w' L v zs:=by
 obtain⟨p,c,hv,hc,h2⟩:=h
 refine⟨p,c,hv,hc,h2.imp id ?_⟩
 rintro⟨b,off,hp,hL,h3⟩
 exact⟨b,off,hp,hL,fun j hj=>(hb.cell (block_lt_of_cell? _ _ (h3 j hj))).trans (h3 j hj)⟩
theorem IS.dio {w w':World} {L:List Nat} {v:Value} {zs:List Int} (h:IS w v zs) (hb:Below w.heap.size w w') (hL:∀x∈L,w.heap.size≤x):IO w' L v zs:=by
 obtain⟨p,c,hv,hc,h2⟩:=h
 rcases Nat.eq_zero_or_pos zs.length with h0 | h0
 ·exact⟨p,c,hv,hc,.inl h0⟩
 obtain⟨b,off,hp,h3⟩:=h2.resolve_left (by omega)
 have hlt:=block_lt_of_cell? _ _ (h3 0 h0)
 exact⟨p,c,hv,hc,.inr ⟨b,off,hp,fun hm=>by have:=hL b hm;simp at hlt;omega,fun j hj=>(hb.cell (block_lt_of_cell? _ _ (h3 j hj))).trans (h3 j hj)⟩⟩
theorem fB.Y1 {w w':World} {L:List Nat} {rf:Nat} {F:Fl} (h:fB w rf F) (hb:Below w.heap.size w w') (hL:∀x∈L,w.heap.size≤x):Ye w' L rf F:=by
 have h':=h.keep hb
 obtain⟨v,h1,-,⟨us,h2,h3,h4⟩,-⟩:=h;have h1':=(hb.block _ (block_lt h1)).trans h1
 exact⟨by rw [cell_of_heap h1'];rfl,v.aI,us,by rw [cell_of_heap h1'];rfl,h2.keep hb,h3,fun k u b hu hb'=>(h4 k u b hu hb').dio hb hL⟩
theorem fB.Y2 {w:World} {rf:Nat} {F:Fl} (h:fB w rf F):Pd w rf F:=by
 obtain⟨v,h1,-,-,h2,-⟩:=h
 refine⟨fun n hn=>?_,v.cls,by rw [cell_of_heap h1];rfl,h2⟩
 rw [cell_of_heap h1]
 rcases n with _ | _ | _ | _ | _ | n<;>first | rfl | omega
theorem J7 (rf:Nat) (F:Fl) (x:Int) (w:World) (h:Pd w rf F) (hn:F.cls.length≤65536) :
  Calls Tryz.prog 145 #[.pointer (some ⟨rf,0,none⟩),.int .i64 x] w fun e w'=>e=.returned (.bool (aM F x))∧Below w.heap.size w w':=by
 have HD:=hid h
 obtain⟨R,hR⟩:∃b,aM F x=b:=⟨_,rfl⟩;have HR:=hid hR;rw [hR];clear hR h
 go_enter Tryz.func145,Tryz.ntmps145
 go_wp2_with fail
 go_loop [5] (fun i=>∃k:Nat,k≤5∧i=.int .i64 k∧Hid (∀j,j < k→dX F j≠x)) (fun i=>5 - (intOf i).toNat)
 case atStart=>exact⟨0,Nat.zero_le _,rfl,hid (fun j hj=>absurd hj (Nat.not_lt_zero _))⟩
 case round =>
 obtain⟨k,hk,rfl,HT⟩:=hrel
 by_cases hlt:k < 5
 ·have d:=HD.o.sp k hlt
  obtain⟨z,hz⟩:∃z,dX F k=z:=⟨_,rfl⟩;rw [hz] at d
  have hlt2:(k:Int) < 5:=by omega
  by_cases he:z=x
  ·have Jm:Hid (R=true):=hid (by rw [←HR.o,gP];exact .inl ⟨k,hlt,hz.trans he⟩)
   have hb0:(z==x)=true:=by rw [beq_iff_eq];exact he
   clear he hz
   go_wp2_with fail
   go_ret
   exact⟨bE Jm.o.symm,Below.refl _ _⟩
  have HN:Hid (∀j,j < k+1→dX F j≠x):=hid (fun j hj=>by
   by_cases e:j=k
   ·subst e;rw [hz];exact he
   exact HT.o j (by omega))
  have hb0:(z==x)=false:=by rw [beq_eq_false_iff_ne];exact he
  clear he hz
  go_wp2_with fail
  go_round
  case rel=>exact⟨k+1,by omega,by go_num,HN⟩
  case measure=>simp [intOf];omega
 obtain rfl:k=5:=by omega
 have HF:=hid (xu rf F.cls x w HD.o.cls hn)
 obtain⟨o,ho⟩:∃o,F.cls.find? (fun c=>c.flag==x)=o:=⟨_,rfl⟩
 have LJ:Hid (R=o.isSome):=hid (by
  rw [←HR.o,Bool.eq_iff_iff,gP,iF,ho]
  constructor
  ·rintro (⟨n,hn,h⟩ | h)
   ·exact absurd h (HT.o n hn)
   exact h
  exact .inr)
 rw [ho] at HF;unfold Ik Ij at HF;obtain⟨d,hd⟩:∃d,o.getD xq=d:=⟨_,rfl⟩;obtain⟨is,his⟩:∃b,o.isSome=b:=⟨_,rfl⟩;rw [hd,his] at HF;rw [his] at LJ;clear ho hd his
 go_wp2_with (go_at_call 102;refine HF.o.mono ?_;rintro e w1 ⟨rfl,hb1⟩;have HB1:=hid hb1;clear hb1)
 go_ret
 exact⟨bE LJ.o.symm,HB1.o.alloc HB1.o.size _⟩
def PY (L:List Nat) (r:Except Int En) (w:World) (e:Ending) (w':World):Prop:=Below w.heap.size w w'∧match r with
 | .error c=>e=.returned (.tuple #[.agg #[.string ⟨#[]⟩,.slice none 0 0],.int .i64 c])
 | .ok x=>∃v,e=.returned (.tuple #[.agg #[.string x.1,v],.int .i64 0])∧IO w' L v x.2
structure QW (w W:World):Prop where
 base:Below w.heap.size w W
 res:W.heap[w.heap.size]?=some (.cells #[.string ⟨#[]⟩,.slice none 0 0] 54 (0,0))
section
variable {w W W':World}
theorem QW.start (w:World):QW w (w.alloc (.cells #[.string ⟨#[]⟩,.slice none 0 0] 54)):=⟨(Below.refl _ _).alloc (Nat.le_refl _) _,heap_alloc_new w _⟩
theorem QW.below (h:QW w W) (hb:Below W.heap.size W W'):QW w W':=⟨h.base.trans (hb.mono h.base.size),(hb.block _ (block_lt h.res)).trans h.res⟩
theorem QW.r0 (h:QW w W):W.cell? ⟨w.heap.size,0,none⟩=some (.string ⟨#[]⟩):=cell_of_heap h.res 0
theorem QW.r1 (h:QW w W):W.cell? ⟨w.heap.size,1,none⟩=some (.slice none 0 0):=cell_of_heap h.res 1
theorem QW.z (h:QW w W) (j:Nat):W.frozen? ⟨w.heap.size,j,none⟩=false:=frozen_of_heap h.res j
theorem QW.done (h:QW w W) (u v:Value):Below w.heap.size w ((W.setCell ⟨w.heap.size,0,none⟩ u).setCell ⟨w.heap.size,1,none⟩ v):=(h.base.setCell (Nat.le_refl _) _).setCell (Nat.le_refl _) _
theorem QW.isd (h:QW w W) {L:List Nat} {a:Value} {zs:List Int} (hi:IO W L a zs) (u v:Value):IO ((W.setCell ⟨w.heap.size,0,none⟩ u).setCell ⟨w.heap.size,1,none⟩ v) L a zs:=by
 obtain⟨p,c,hv,hc,h2⟩:=hi
 refine⟨p,c,hv,hc,h2.imp id ?_⟩
 rintro⟨b,off,hp,hL,h3⟩
 refine⟨b,off,hp,hL,fun j hj=>?_⟩
 have h4:=h3 j hj
 have hne:b≠w.heap.size:=fun e=>by
  rw [e,cell_of_heap h.res] at h4
  rcases hx:off+j with _ | _ | m
  ·rw [hx] at h4;simp at h4
  ·rw [hx] at h4;simp at h4
  rw [hx] at h4;simp at h4
 have hk:Kept [w.heap.size] W ((W.setCell ⟨w.heap.size,0,none⟩ u).setCell ⟨w.heap.size,1,none⟩ v):=((Kept.refl _ W).set _ _ _ (.inl (by simp))).set _ _ _ (.inl (by simp))
 exact (World.cell?_of_block (hk.block b (block_lt_of_cell? _ _ h4) (by simpa using hne))).trans h4
end
theorem J8 (L:List Nat) (w0:World) (rf:Nat) (F:Fl) (fv:Value) (row:List ByteArray) (w:World) (hf:fB w0 rf F) (hb0:Below w0.heap.size w0 w) (hL:∀x∈L,w0.heap.size≤x∧x < w.heap.size) (hok:iU F) (hr:Rd w 1 fv row.length (bn row)) (hs:∀j,(fieldAt row j).size≤65536) (hn:row.length≤9223372036854775807) :
  Calls Tryz.prog 104 #[.pointer (some ⟨rf,0,none⟩),fv] w (PY L (jy F row) w):=by
 obtain⟨-,A,cp,rfl,hcap,hcells⟩:=hr
 have HE:=hid (QW.start w);obtain⟨wA,BR⟩:∃W,w.alloc (.cells #[.string ⟨#[]⟩,.slice none 0 0] 54)=W:=⟨_,rfl⟩;rw [BR] at HE
 have vg:Hid (∀W s,Below w.heap.size w W→s.size≤4194304→Calls Tryz.prog 144 #[.pointer (some ⟨rf,0,none⟩),.string s] W fun e w'=>∃v,e=.returned (.tuple #[v,.int .i64 (aQ F s).2])∧IO w' L v (aQ F s).1∧Below W.heap.size W w'):=hid (fun W s hW h=>zS L rf F s W (hf.Y1 (hb0.trans (hW.mono hb0.size)) (fun x hx=>(hL x hx).1)) (fun x hx=>Nat.lt_of_lt_of_le (hL x hx).2 hW.size) hok.aI h)
 have HKn:Hid (∀W x,Below w.heap.size w W→Calls Tryz.prog 145 #[.pointer (some ⟨rf,0,none⟩),.int .i64 x] W fun e w'=>e=.returned (.bool (aM F x))∧Below W.heap.size W w'):=hid (fun W x hW=>J7 rf F x W (hf.keep (hb0.trans (hW.mono hb0.size))).Y2 hok.cls)
 have jr:=hid hok;have q0:=HE.o.r0;have q1:=HE.o.r1;have y0:=HE.o.z 0;have y1:=HE.o.z 1
 by_cases h1:row.length=1
 ·obtain⟨g,o,rfl,hc⟩:=hcells.resolve_left (by omega)
  have hx:(bn row)[0]?=some (.string (fieldAt row 0)):=by
   match row,h1 with
   | [f],_=>rfl
  have c1:=hc 0 _ hx;rw [Nat.add_zero] at c1;have d1:=(HE.o.base.cell (block_lt_of_cell? _ _ c1)).trans c1;have hfs:=hs 0
  have hx2:jy F row=match eB (fieldAt row 0).data.toList with | (w,rest,cut,e)=>if e≠0 then .error e else gy F w rest cut:=by rw [jy,if_neg (by omega)]
  have su:Hid (∀W,Calls Tryz.prog 143 #[.string (fieldAt row 0)] W fun e w'=>e=.returned (jY (eB (fieldAt row 0).data.toList))∧Below W.heap.size W w'):=hid (fun W=>uy (fieldAt row 0) W (by omega))
  have hwl:=iM (fieldAt row 0).data.toList;obtain⟨⟨wd,rest,cut,ec⟩,hwr⟩:∃r,eB (fieldAt row 0).data.toList=r:=⟨_,rfl⟩;rw [hwr] at su hx2 hwl;unfold jY at su;dsimp only at su hx2 hwl
  have hl1:wd.length≤65536∧rest.length≤65536:=by have e:(fieldAt row 0).data.toList.length=(fieldAt row 0).size:=(by simp);omega
  obtain⟨hl1,hl2⟩:=hl1;obtain⟨R,hR⟩:∃R,jy F row=R:=⟨_,rfl⟩;rw [hR] at hx2 ⊢;rw [h1] at hcap ⊢
  generalize fieldAt row 0=f at *
  clear hcells hc hx c1 hs hn h1 hwl hwr hR hfs hf hok hb0 hL
  by_cases SX:ec=0
  ·subst SX
   rw [if_neg (by simp)] at hx2
   have hsz:(mkS wd).size=wd.length:=aG wd
   have hrs:(mkS rest).size≤4194304:=by rw [aG];omega
   have Dw:Hid (wd=[]→R=.error 21):=hid (fun h=>by rw [hx2,gy,if_pos (.inl h)])
   have Uz:Hid (fitAll (mkS wd)=false→R=.error 21):=hid (fun h=>by rw [hx2,gy,if_pos (.inr h)])
   have Xw:Hid (wd≠[]→fitAll (mkS wd)=true→64 < wd.length→R=.error 22):=hid (fun h h2 h3=>by rw [hx2,gy,if_neg (by rw [h2];simp [h]),if_pos h3])
   have Xx:Hid (wd≠[]→fitAll (mkS wd)=true→¬64 < wd.length→cut=false→R=.ok (mkS wd,[])):=hid (fun h h2 h3 h4=>by rw [hx2,gy,if_neg (by rw [h2];simp [h]),if_neg h3,if_pos h4])
   have Rm:Hid (wd≠[]→fitAll (mkS wd)=true→¬64 < wd.length→cut=true→R=if (aQ F (mkS rest)).2≠0 then .error (aQ F (mkS rest)).2 else if (aQ F (mkS rest)).1.all (aM F)=true then .ok (mkS wd,(aQ F (mkS rest)).1) else .error 120):=hid (fun h h2 h3 h4=>by rw [hx2,gy,if_neg (by rw [h2];simp [h]),if_neg h3,if_neg (by rw [h4];simp),nJ])
   have YZ:Hid (wd=[]→mkS wd=⟨#[]⟩):=hid (fun h=>by rw [h];rfl)
   have Cb:=fZ (kP F (mkS rest) (fun a ha=>(jr.o.sets a ha).1)) (qB F (mkS rest) (fun a ha=>(jr.o.sets a ha).2))
   have BN:Hid (∀W,Below w.heap.size w W→Calls Tryz.prog 144 #[.pointer (some ⟨rf,0,none⟩),.string (mkS rest)] W fun e w'=>∃v,e=.returned (.tuple #[v,.int .i64 (aQ F (mkS rest)).2])∧IO w' L v (aQ F (mkS rest)).1∧Below W.heap.size W w'):=hid (fun W hW=>vg.o W _ hW hrs)
   obtain⟨⟨zs,fc⟩,hz⟩:∃r,aQ F (mkS rest)=r:=⟨_,rfl⟩;rw [hz] at Rm BN Cb;dsimp only at Rm BN Cb
   generalize mkS rest=rs at *
   have hby:∀W,Calls Tryz.prog 139 #[.string (mkS wd)] W fun e w'=>e=.returned (.bool (fitAll (mkS wd)))∧W=w':=fun W=>gQ (mkS wd) W (by omega)
   generalize mkS wd=s at *
   obtain⟨ft,hft⟩:∃b,fitAll s=b:=⟨_,rfl⟩;rw [hft] at hby Uz Xw Xx Rm;have sS:=hid hby;have Y3:Hid (s.size=wd.length):=hid hsz;clear hx2 hrs hz vg hl2 jr hby hft
   by_cases h0:wd=[]
   ·have HN:=hid (Dw.o h0)
    have hse:=YZ.o h0
    subst hse
    clear h0 hsz
    go_enter Tryz.func104,Tryz.ntmps104
    go_wp2_with (first
     | (go_at_call 143;refine (su.o _).mono ?_;rintro e w2 ⟨rfl,hb⟩;have HE2:=hid (HE.o.below hb);clear hb q0 q1 y0 y1;have q0:=HE2.o.r0;have q1:=HE2.o.r1;have y0:=HE2.o.z 0;have y1:=HE2.o.z 1)
     | (go_at_call 139;refine (sS.o _).mono ?_;rintro e w3 ⟨rfl,rfl⟩))
    refine bodyPost_ret (v:=.tuple #[.agg #[.string ⟨#[]⟩,.slice none 0 0],.int .i64 21]) (by simp [results,Tryz.results104,go_sem,q0,q1];try rfl) rfl ?_
    rw [HN.o]
    exact⟨HE2.o.done _ _,rfl⟩
   have hne:=iY s (by have:=List.length_pos_iff.2 h0;omega)
   have hne0:((s.size:Int)==0)=false:=by rw [beq_eq_false_iff_ne];have:=List.length_pos_iff.2 h0;omega
   have H0:=hid h0;clear h0 hsz
   cases ft
   ·have HN:=hid (Uz.o rfl)
    go_enter Tryz.func104,Tryz.ntmps104
    go_wp2_with (first
     | (go_at_call 143;refine (su.o _).mono ?_;rintro e w2 ⟨rfl,hb⟩;have HE2:=hid (HE.o.below hb);clear hb q0 q1 y0 y1;have q0:=HE2.o.r0;have q1:=HE2.o.r1;have y0:=HE2.o.z 0;have y1:=HE2.o.z 1)
     | (go_at_call 139;refine (sS.o _).mono ?_;rintro e w3 ⟨rfl,rfl⟩))
    refine bodyPost_ret (v:=.tuple #[.agg #[.string ⟨#[]⟩,.slice none 0 0],.int .i64 21]) (by simp [results,Tryz.results104,go_sem,q0,q1];try rfl) rfl ?_
    rw [HN.o]
    exact⟨HE2.o.done _ _,rfl⟩
   by_cases h64:64 < s.size
   ·have SY:(64:Int) < (s.size:Int):=by omega
    have HN:=hid (Xw.o H0.o rfl (by have:=Y3.o;omega))
    go_enter Tryz.func104,Tryz.ntmps104
    go_wp2_with (first
     | (go_at_call 143;refine (su.o _).mono ?_;rintro e w2 ⟨rfl,hb⟩;have HE2:=hid (HE.o.below hb);clear hb q0 q1 y0 y1;have q0:=HE2.o.r0;have q1:=HE2.o.r1;have y0:=HE2.o.z 0;have y1:=HE2.o.z 1)
     | (go_at_call 139;refine (sS.o _).mono ?_;rintro e w3 ⟨rfl,rfl⟩))
    refine bodyPost_ret (v:=.tuple #[.agg #[.string ⟨#[]⟩,.slice none 0 0],.int .i64 22]) (by simp [results,Tryz.results104,go_sem,q0,q1];try rfl) rfl ?_
    rw [HN.o]
    exact⟨HE2.o.done _ _,rfl⟩
   have SY:¬(64:Int) < (s.size:Int):=by omega
   cases cut
   ·have HN:=hid (Xx.o H0.o rfl (by have:=Y3.o;omega) rfl)
    go_enter Tryz.func104,Tryz.ntmps104
    go_wp2_with (first
     | (go_at_call 143;refine (su.o _).mono ?_;rintro e w2 ⟨rfl,hb⟩;have HE2:=hid (HE.o.below hb);clear hb q0 q1 y0 y1;have q0:=HE2.o.r0;have q1:=HE2.o.r1;have y0:=HE2.o.z 0;have y1:=HE2.o.z 1)
     | (go_at_call 139;refine (sS.o _).mono ?_;rintro e w3 ⟨rfl,rfl⟩))
    refine bodyPost_ret (v:=.tuple #[.agg #[.string s,.slice none 0 0],.int .i64 0]) (by simp [results,Tryz.results104,go_sem,q0,q1];try rfl) rfl ?_
    rw [HN.o]
    exact⟨HE2.o.done _ _,_,rfl,none,0,rfl,Nat.le_refl _,.inl rfl⟩
   have HG:=hid (Rm.o H0.o rfl (by have:=Y3.o;omega) rfl)
   go_enter Tryz.func104,Tryz.ntmps104
   go_wp2_with (first
    | (go_at_call 143;refine (su.o _).mono ?_;rintro e w2 ⟨rfl,hb⟩;have HE2:=hid (HE.o.below hb);clear hb q0 q1 y0 y1)
    | (go_at_call 139;refine (sS.o _).mono ?_;rintro e w3 ⟨rfl,rfl⟩))
   refine (BN.o w2 HE2.o.base).mono ?_
   rintro e w3 ⟨v3,rfl,hfn,hb3⟩
   have J6:=hid (HE2.o.below hb3);have Gf:=hid hfn
   obtain⟨p3,c3,rfl⟩:∃p c,v3=.slice p zs.length c:=by obtain⟨p,c,hv,-⟩:=hfn;exact⟨p,c,hv⟩
   clear hfn hb3;have q0:=J6.o.r0;have q1:=J6.o.r1;have y0:=J6.o.z 0;have y1:=J6.o.z 1
   by_cases hfc:fc=0
   ·subst hfc
    rw [if_neg (by simp)] at HG
    clear q0 q1 y0 y1
    go_wp2_with fail
    go_loopw [12,13] (fun i _ wr=>∃k:Nat,k≤zs.length∧i=.int .i64 k∧Hid (Below w3.heap.size w3 wr)∧Hid (∀j (hj:j < zs.length),j < k→aM F zs[j]=true)) (fun i _ _=>zs.length - (intOf i).toNat)
    case atStart=>exact⟨0,Nat.zero_le _,rfl,hid (Below.refl _ _),hid (fun j _ hj=>absurd hj (Nat.not_lt_zero _))⟩
    case round =>
    obtain⟨k2,hk2,rfl,sw,HD⟩:=hrel
    have D6:=hid (J6.o.below sw.o)
    by_cases hlz:k2 < zs.length
    ·obtain⟨p',c',hv,hcp,hrow⟩:=Gf.o
     cases hv
     obtain⟨g2,o2,rfl,-,hc2⟩:=hrow.resolve_left (by omega)
     have c2:=hc2 k2 hlz
     have e2:zs.getD k2 0=zs[k2]:=by simp [List.getD,hlz]
     rw [e2] at c2;have d2:=(sw.o.cell (block_lt_of_cell? _ _ c2)).trans c2;have F9:=hid (HKn.o wr zs[k2] D6.o.base)
     have OW:Hid (aM F zs[k2]=true→∀j (hj:j < zs.length),j < k2+1→aM F zs[j]=true):=hid (fun he j hj hjk=>by
      by_cases e:j=k2
      ·subst e;exact he
      exact HD.o j hj (by omega))
     have mX:Hid (aM F zs[k2]=false→R=.error 120):=hid (fun he=>by
      rw [HG.o,if_neg]
      intro ha
      rw [List.all_eq_true.1 ha _ (List.getElem_mem hlz)] at he
      cases he)
     obtain⟨df,hdf⟩:∃b,aM F zs[k2]=b:=⟨_,rfl⟩;rw [hdf] at F9 OW mX
     generalize zs[k2]=x at *
     clear c2 e2 hc2 hrow hcp hdf
     cases df
     ·have HN:=hid (mX.o rfl)
      go_wp2_with (go_at_call 145;refine F9.o.mono ?_;rintro e w5 ⟨rfl,hb5⟩;have FX:=hid (D6.o.below hb5);clear hb5;have q0:=FX.o.r0;have q1:=FX.o.r1;have y0:=FX.o.z 0;have y1:=FX.o.z 1)
      refine bodyPost_ret (v:=.tuple #[.agg #[.string ⟨#[]⟩,.slice none 0 0],.int .i64 120]) (by simp [results,Tryz.results104,go_sem,q0,q1];try rfl) rfl ?_
      rw [HN.o]
      exact⟨FX.o.done _ _,rfl⟩
     have VP:=hid (OW.o rfl)
     go_wp2_with (go_at_call 145;refine F9.o.mono ?_;rintro e w5 ⟨rfl,hb5⟩;have jK:=hid (sw.o.trans (hb5.mono sw.o.size));clear hb5)
     go_roundw
     case rel=>exact⟨k2+1,by omega,by go_num,jK,VP⟩
     case measure=>simp [intOf];omega
    obtain rfl:k2=zs.length:=by omega
    have HN:Hid (R=.ok (s,zs)):=hid (by
     rw [HG.o,if_pos]
     exact List.all_eq_true.2 (fun x hx=>by
      obtain⟨j,hj,rfl⟩:=List.mem_iff_getElem.1 hx
      exact HD.o j hj hj))
    have HI:=hid (Gf.o.later sw.o);have q0:=D6.o.r0;have q1:=D6.o.r1;have y0:=D6.o.z 0;have y1:=D6.o.z 1
    go_wp2_with fail
    refine bodyPost_ret (v:=.tuple #[.agg #[.string s,.slice p3 zs.length c3],.int .i64 0]) (by simp [results,Tryz.results104,go_sem,q0,q1];try rfl) rfl ?_
    rw [HN.o]
    exact⟨D6.o.done _ _,_,rfl,D6.o.isd HI.o _ _⟩
   have aci:(fc != 0)=true:=by rw [bne_iff_ne];exact hfc
   have HN:Hid (R=.error fc):=hid (by rw [HG.o,if_pos hfc])
   go_wp2_with fail
   refine bodyPost_ret (v:=.tuple #[.agg #[.string ⟨#[]⟩,.slice none 0 0],.int .i64 fc]) (by simp [results,Tryz.results104,go_sem,q0,q1];try rfl) rfl ?_
   rw [HN.o]
   exact⟨J6.o.done _ _,rfl⟩
  have Y0:(ec != 0)=true:=by rw [bne_iff_ne];exact SX
  have HN:Hid (R=.error ec):=hid (by rw [hx2,if_pos SX])
  clear hx2
  go_enter Tryz.func104,Tryz.ntmps104
  go_wp2_with (go_at_call 143;refine (su.o _).mono ?_;rintro e w2 ⟨rfl,hb⟩;have HE2:=hid (HE.o.below hb);clear hb q0 q1 y0 y1;have q0:=HE2.o.r0;have q1:=HE2.o.r1;have y0:=HE2.o.z 0;have y1:=HE2.o.z 1)
  refine bodyPost_ret (v:=.tuple #[.agg #[.string ⟨#[]⟩,.slice none 0 0],.int .i64 ec]) (by simp [results,Tryz.results104,go_sem,q0,q1];try rfl) rfl ?_
  rw [HN.o]
  exact⟨HE2.o.done _ _,rfl⟩
 have hN:jy F row=.error 111:=by rw [jy,if_pos h1]
 have hn1:((row.length:Int) != 1)=true:=by rw [bne_iff_ne];omega
 rw [hN];clear hcells hN
 go_enter Tryz.func104,Tryz.ntmps104
 go_wp2_with fail
 refine bodyPost_ret (v:=.tuple #[.agg #[.string ⟨#[]⟩,.slice none 0 0],.int .i64 111]) (by simp [results,Tryz.results104,go_sem,q0,q1];try rfl) rfl ?_
 exact⟨HE.o.done _ _,rfl⟩
def VQ:Value→Option (DataW Unit×List MemPlace)
 | .slice none 0 0=>some (.agg [],[])
 | .slice (some ⟨g,0,none⟩) n c=>some (.agg [.lit (.int .i64 (g:Nat)),.lit (.int .i64 (n:Nat)),.lit (.int .i64 (c:Nat))],[])
 | _=>none
def UA:Value→DataW Unit
 | .slice (some ⟨g,_,_⟩) n c=>.agg [.lit (.int .i64 (g:Nat)),.lit (.int .i64 (n:Nat)),.lit (.int .i64 (c:Nat))]
 | _=>.agg []
def UC (v:Value):Prop:=v=.slice none 0 0∨∃g n c,v=.slice (some ⟨g,0,none⟩) n c
theorem S9 {v:Value} (h:UC v):VQ v=some (UA v,[]):=by
 rcases h with rfl | ⟨g,n,c,rfl⟩<;>rfl
theorem PZ {u v:Value} {ps:List MemPlace} (h:UC v) (hE:VQ u=some (UA v,ps)):u=v:=by
 unfold VQ at hE
 split at hE
 ·rcases h with rfl | ⟨g,n,c,rfl⟩
  ·rfl
  simp [UA] at hE
 ·rename_i g' n' c'
  rcases h with rfl | ⟨g,n,c,rfl⟩
  ·simp [UA] at hE
  simp [UA] at hE;obtain⟨⟨h1,h2,h3⟩,-⟩:=hE
  have e1:g'=g:=by omega
  have e2:n'=n:=by omega
  have e3:c'=c:=by omega
  subst e1 e2 e3
  rfl
 cases hE
theorem UC.own {w:World} {B e n:Nat} {v:Value} {xs:List Value} (h:w.ownsRow B e 1 v n xs):UC v:=by
 rcases h.2 with ⟨rfl,-⟩ | ⟨g,cap,cur,rfl,_⟩
 ·exact .inl rfl
 exact .inr ⟨g,n,cap,rfl⟩
def D7 {α:Type} (f:ByteArray→α) (s:ByteArray) (v:α):ByteArray→α:=fun u=>if u=s then v else f u
theorem iO {α:Type} (f:ByteArray→α) (s:ByteArray) (v:α):D7 f s v s=v:=if_pos rfl
theorem fM {α:Type} (f:ByteArray→α) {s u:ByteArray} (v:α) (h:u≠s):D7 f s v u=f u:=if_neg h
structure qP (B:Nat) (w:World) (mb n:Nat) (hd:ByteArray→Value) (ix:ByteArray→List Int):Prop where
 map:∃D:DataW Unit,w.ownsMap Tryz.prog 9 VQ mb n D∧∀s:ByteArray,D.atKey (uM s) (.agg [])=UA (hd s)
 rows:∀s,w.ownsRow B 3 1 (hd s) (ix s).length ((ix s).map (Value.int .i64))
 apart:∀s s' g,s≠s'→(hd s).ownBlock=some g→(hd s').ownBlock≠some g
 le:∀s,(ix s).length≤n
theorem qP.made (w:World):qP (w.heap.size+1) (w.alloc (.map #[] 0)) w.heap.size 0 (fun _=>.slice none 0 0) (fun _=>[]) :=
 ⟨⟨_,World.ownsMap_made _ _ _ _,fun _=>rfl⟩,fun _=>World.ownsRow_nil _ _ _ _,fun _ _ _ _ h=>by simp [Value.ownBlock] at h,fun _=>Nat.zero_le _⟩
theorem qP.kept {B:Nat} {X:List Nat} {w w':World} {mb n:Nat} {hd:ByteArray→Value} {ix:ByteArray→List Int} (h:qP B w mb n hd ix) (hk:Kept X w w') (hm:mb∉X) (hr:∀s g,(hd s).ownBlock=some g→g∉X):qP B w' mb n hd ix:=by
 obtain⟨D,⟨es,clock,hb,F,hs,hD⟩,h2⟩:=h.map
 exact⟨⟨D,⟨es,clock,hk.at hb hm,F,hs,hD⟩,h2⟩,fun s=>hk.own (h.rows s) (fun g hg=>hr s g hg),h.apart,h.le⟩
theorem qP.look {B:Nat} {w:World} {mb n:Nat} {hd:ByteArray→Value} {ix:ByteArray→List Int} (h:qP B w mb n hd ix) (s:ByteArray) (hs:s.size≤maxLen) (hz:(zeroValue 39).run Tryz.prog w=.ok (.slice none 0 0) w) :
  (Instr.lookup 134 (.map (some mb)) (.string s) false).run Tryz.prog w=.ok (hd s) w:=by
 obtain⟨D,hD,h2⟩:=h.map
 obtain⟨v,ps,hrun,hv⟩:=hD.lookup jM Tryz.underlying134 hz (zd:=.agg []) (zp:=[]) rfl (keyOf_string_mk Tryz.underlying9 hs);rw [h2 s] at hv;rw [hrun,PZ (UC.own (h.rows s)) hv]
theorem MZ {s u:ByteArray} (h:uM s=uM u):s=u:=by
 injection h with e
 obtain⟨⟨a⟩⟩:=s;obtain⟨⟨b⟩⟩:=u;simp at e;rw [e]
theorem P5 {s u:ByteArray} (h:s≠u):uM s≠uM u:=fun e=>h (MZ e)
theorem qP.store {B:Nat} {w w1:World} {mb n:Nat} {hd:ByteArray→Value} {ix:ByteArray→List Int} (h:qP B w mb n hd ix) (s:ByteArray) (x:Int) (v':Value) (hs:s.size≤maxLen) (hn:n < maxLen) (hmB:mb < w.heap.size)
  (hv:w1.ownsRow B 3 1 v' ((ix s).length+1) ((ix s).map (Value.int .i64)++[Value.int .i64 x])) (hg:w.grownBy w1 (hd s).ownBlock) (hl:v'.ownBlock=(hd s).ownBlock∨∃g,v'.ownBlock=some g∧w.heap.size≤g) :
  ∃w2,(Instr.mapUpdate 134 (.map (some mb)) (.string s) v').run Tryz.prog w1=.ok () w2∧qP B w2 mb (n+1) (D7 hd s v') (D7 ix s (ix s++[x]))∧w1.grownBy w2 (some mb):=by
 obtain⟨D,hD,h2⟩:=h.map
 have hmap:∀u,(hd u).ownBlock≠some mb:=fun u e=>by
  obtain⟨es,clock,hb,-⟩:=hD
  rcases (h.rows u).2 with ⟨e2,-⟩ | ⟨g,cap,cur,e2,-,hc,-⟩
  ·rw [e2] at e;simp [Value.ownBlock] at e
  rw [e2] at e
  have:g=mb:=by simpa [Value.ownBlock] using e
  subst this
  rw [hb] at hc;cases hc
 have hk1:Kept (match (hd s).ownBlock with | some g=>[g] | none=>[]) w w1:=Kept.grown hg (fun k hk=>by rw [hk];simp)
 have hm1:mb∉(match (hd s).ownBlock with | some g=>[g] | none=>[]):=by
  cases hb:(hd s).ownBlock with
  | none=>simp
  | some g=>simp only [List.mem_singleton];rintro rfl;exact hmap s hb
 have hD1:w1.ownsMap Tryz.prog 9 VQ mb n D:=by
  obtain⟨es,clock,hb,F,hs',hD'⟩:=hD
  exact⟨es,clock,hk1.at hb hm1,F,hs',hD'⟩
 obtain⟨w2,hrun,hD2,hg2⟩:=hD1.update jM Tryz.underlying134 hn (keyOf_string_mk Tryz.underlying9 hs) (S9 (UC.own hv))
 have hvm:v'.ownBlock≠some mb:=by
  rcases hl with e | ⟨g,e,hgs⟩
  ·rw [e];exact hmap s
  rw [e];intro e2;cases e2;omega
 have hk2:Kept [mb] w1 w2:=Kept.grown hg2 (fun k hk=>by cases hk;simp)
 refine⟨w2,hrun,⟨⟨_,hD2,fun u=>?_⟩,fun u=>?_,fun u u' g hne hu=>?_,fun u=>?_⟩,hg2⟩
 ·by_cases hu:u=s
  ·subst hu
   rw [Maps.atKey_put_same hD1.isMap (by trivial),iO]
  rw [Maps.atKey_put_other (P5 hu),fM _ _ hu,h2 u]
 ·by_cases hu:u=s
  ·subst hu
   rw [iO,iO,List.length_append,List.map_append]
   exact hk2.own hv (fun g hg' hm=>by simp only [List.mem_singleton] at hm;subst hm;exact hvm hg')
  rw [fM _ _ hu,fM _ _ hu]
  refine hk2.own (hk1.own (h.rows u) (fun g hg' hm=>?_)) (fun g hg' hm=>?_)
  ·cases hb:(hd s).ownBlock with
   | none=>rw [hb] at hm;simp at hm
   | some g' =>
    rw [hb] at hm
    simp only [List.mem_singleton] at hm
    subst hm
    exact h.apart u s g hu hg' hb
  simp only [List.mem_singleton] at hm
  subst hm
  exact hmap u hg'
 ·have hlt:∀u g,(hd u).ownBlock=some g→g < w.heap.size:=fun u g e=>by
   rcases (h.rows u).2 with ⟨e2,-⟩ | ⟨g',cap,cur,e2,-,hc,-⟩
   ·rw [e2] at e;simp [Value.ownBlock] at e
   rw [e2] at e
   have:g'=g:=by simpa [Value.ownBlock] using e
   subst this
   exact block_lt hc
  by_cases e1:u=s
  ·subst e1
   rw [iO] at hu;rw [fM _ _ (Ne.symm hne)]
   rcases hl with e | ⟨g',e,hgs⟩
   ·rw [e] at hu;exact h.apart u u' g hne hu
   rw [e] at hu
   intro e3
   cases hu
   have:=hlt u' _ e3
   omega
  rw [fM _ _ e1] at hu
  by_cases e2:u'=s
  ·subst e2
   rw [iO]
   rcases hl with e | ⟨g',e,hgs⟩
   ·rw [e];exact h.apart u u' g hne hu
   rw [e]
   intro e3
   cases e3
   have:=hlt u _ hu
   omega
  rw [fM _ _ e2]
  exact h.apart u u' g hne hu
 by_cases hu:u=s
 ·subst hu
  rw [iO,List.length_append]
  have:=h.le u
  simp;omega
 rw [fM _ _ hu]
 have:=h.le u
 omega
abbrev ug:=ByteArray×Value×List Int
def aX (es:List ug):List Value:=es.flatMap fun x=>[.string x.1,x.2.1]
def dU (es:List ug):List En:=es.map fun x=>(x.1,x.2.2)
theorem j5 (es:List ug) (x:ug):dU (es++[x])=dU es++[(x.1,x.2.2)]:=by simp [dU]
theorem qY (es:List ug) (x:ug):aX es++[.string x.1,x.2.1]=aX (es++[x]):=by simp [aX]
def zB (s:ByteArray):Nat→List En→List Int
 | _,[]=>[]
 | k,x::r=>if x.1=s then (k:Int)::zB s (k+1) r else zB s (k+1) r
def D8 (es:List En) (s:ByteArray):List Int:=zB s 0 es
theorem AA (s:ByteArray) (x:En):∀(es:List En) (k:Nat),zB s k (es++[x])=zB s k es++(if x.1=s then [((k+es.length:Nat):Int)] else [])
 | [],k=>by
   rw [List.nil_append,zB]
   split
   ·rename_i h;simp [zB,h]
   ·rename_i h;simp [zB,h]
 | y::r,k=>by
   have ih:=AA s x r (k+1)
   have e:k+1+r.length=k+(y::r).length:=by simp;omega
   rw [e] at ih;rw [List.cons_append,zB,zB,ih]
   split<;>simp
theorem J9 (es:List En) (x:En):D8 (es++[x])=D7 (D8 es) x.1 (D8 es x.1++[(es.length:Int)]):=by
 funext s
 unfold D8;rw [AA,Nat.zero_add]
 by_cases h:x.1=s
 ·subst h
  rw [if_pos rfl,iO]
 rw [if_neg h,fM _ _ (Ne.symm h),List.append_nil]
def iH (w:World) (wb:Nat) (es:List En):Prop:=∃(mb:Nat) (lv:Value) (xs:List ug),w.heap[wb]?=some (.cells #[lv,.map (some mb)] 136 (0,0))∧dU xs=es∧Rd w 2 lv xs.length (aX xs)∧(∀x∈xs,FS w x.2.1 x.2.2)∧∃B n hd,qP B w mb n hd (D8 es)
theorem iH.keep {w w':World} {wb:Nat} {es:List En} (h:iH w wb es) (hb:Below w.heap.size w w'):iH w' wb es:=by
 obtain⟨mb,lv,xs,h1,h2,h3,h4,B,n,hd,h5⟩:=h
 exact⟨mb,lv,xs,(hb.block _ (block_lt h1)).trans h1,h2,h3.keep hb,fun x hx=>(h4 x hx).keep hb,B,n,hd,h5.kept (Kept.of_below (E:=[]) hb) (by simp) (by simp)⟩
def Y4 (r:Except (Int×Int) (List En)) (w:World) (e:Ending) (w':World):Prop:=Below w.heap.size w w'∧match r with
 | .error p=>e=.returned (.tuple #[.pointer none,.agg #[.int .i64 2,.int .i64 p.1,.int .i64 p.2]])
 | .ok es=>∃wb,e=.returned (.tuple #[.pointer (some ⟨wb,0,none⟩),.agg #[.int .i64 0,.int .i64 0,.int .i64 0]])∧iH w' wb es∧w.heap.size≤wb
structure DW (W wr:World) (mb wb n:Nat) (lv:Value) (xs:List ug) (hd:ByteArray→Value) (ix:ByteArray→List Int):Prop where
 kept:Kept [mb,wb] W wr
 mlt:mb < W.heap.size
 UD:wb < W.heap.size
 words:wr.heap[wb]?=some (.cells #[lv,.map (some mb)] 136 (0,0))
 list:wr.ownsRow W.heap.size 35 2 lv xs.length (aX xs)
 found:qP W.heap.size wr mb n hd ix
 fl:∀x∈xs,FS wr x.2.1 x.2.2∧∀g o n c,x.2.1=.slice (some ⟨g,o,none⟩) n c→n≠0→g < wr.heap.size∧lv.ownBlock≠some g∧(∀s,(hd s).ownBlock≠some g)∧g≠mb∧g≠wb
section
variable {W wr w':World} {mb wb n:Nat} {lv:Value} {xs:List ug} {hd:ByteArray→Value} {ix:ByteArray→List Int}
theorem iK {B e size n g:Nat} {w:World} {v:Value} {us:List Value} (h:w.ownsRow B e size v n us) (hg:v.ownBlock=some g):B≤g∧g < w.heap.size∧∃cur,w.heap[g]?=some (.cells cur e (0,0)):=by
 rcases h.2 with ⟨rfl,_⟩ | ⟨g',cap,cur,rfl,h1,h2,_⟩
 ·simp [Value.ownBlock] at hg
 have:g'=g:=by simpa [Value.ownBlock] using hg
 subst this
 exact⟨h1,block_lt h2,cur,h2⟩
theorem DW.below (h:DW W wr mb wb n lv xs hd ix) (hb:Below wr.heap.size wr w'):DW W w' mb wb n lv xs hd ix:=by
 have hk:Kept [] wr w':=Kept.of_below hb
 refine⟨h.kept.trans' hk (by simp),h.mlt,h.UD,hk.at h.words (by simp),hk.own h.list (by simp),h.found.kept hk (by simp) (by simp),fun x hx=>?_⟩
 obtain⟨h1,h2⟩:=h.fl x hx
 refine⟨h1.keep hb,fun g o n c e hn=>?_⟩
 obtain⟨q1,q2,q3,q4,q5⟩:=h2 g o n c e hn
 exact⟨Nat.lt_of_lt_of_le q1 hb.size,q2,q3,q4,q5⟩
theorem DW.c0 (h:DW W wr mb wb n lv xs hd ix):wr.cell? ⟨wb,0,none⟩=some lv:=cell_of_heap h.words 0
theorem DW.z0 (h:DW W wr mb wb n lv xs hd ix):wr.frozen? ⟨wb,0,none⟩=false:=frozen_of_heap h.words 0
theorem DW.apart (h:DW W wr mb wb n lv xs hd ix):(∀g,lv.ownBlock=some g→g≠mb∧g≠wb∧∀s,(hd s).ownBlock≠some g)∧∀s g,(hd s).ownBlock=some g→g≠mb∧g≠wb∧lv.ownBlock≠some g:=by
 have hm:=h.mlt
 have hw:=h.UD
 refine⟨fun g hg=>?_,fun s g hg=>?_⟩
 ·obtain⟨g1,g2,cur,g3⟩:=iK h.list hg
  refine⟨by omega,by omega,fun s hs=>?_⟩
  obtain⟨-,-,Y5,g4⟩:=iK (h.found.rows s) hs;rw [g3] at g4
  injection g4 with g4
  injection g4 with _ g5 _
  exact absurd g5 (by decide)
 obtain⟨g1,g2,cur,g3⟩:=iK (h.found.rows s) hg
 refine⟨by omega,by omega,fun hs=>?_⟩
 obtain⟨-,-,Y5,g4⟩:=iK h.list hs;rw [g3] at g4
 injection g4 with g4
 injection g4 with _ g5 _
 exact absurd g5 (by decide)
theorem FS.blocks {w w':World} {v:Value} {zs:List Int} (h:FS w v zs) (hb:∀g o n c,v=.slice (some ⟨g,o,none⟩) n c→n≠0→w'.heap[g]?=w.heap[g]?):FS w' v zs:=by
 obtain⟨p,c,hv,hc,h⟩:=h
 refine⟨p,c,hv,hc,?_⟩
 by_cases h0:zs.length=0
 ·exact .inl h0
 obtain⟨b,off,hp,h2⟩:=h.resolve_left h0
 exact .inr ⟨b,off,hp,fun j hj=>(World.cell?_of_block (hb b off _ c (by rw [hv,hp]) h0)).trans (h2 j hj)⟩
theorem DW.push (h:DW W wr mb wb n lv xs hd ix) (x:ug) (Rn:Value) {w1:World} (hx:FS wr x.2.1 x.2.2) (hx2:∀g o n c,x.2.1=.slice (some ⟨g,o,none⟩) n c→n≠0→g < wr.heap.size∧lv.ownBlock≠some g∧(∀s,(hd s).ownBlock≠some g)∧g≠mb∧g≠wb)
  (hown:w1.ownsRow W.heap.size 35 2 Rn (xs.length+1) (aX xs++[.string x.1,x.2.1])) (hg:wr.grownBy w1 lv.ownBlock) (hl:Rn.ownBlock=lv.ownBlock∨∃g,Rn.ownBlock=some g∧wr.heap.size≤g) :
  DW W (w1.setCell ⟨wb,0,none⟩ Rn) mb wb n Rn (xs++[x]) hd ix:=by
 obtain⟨a1,a2⟩:=h.apart
 obtain⟨L,hL⟩:∃L:List Nat,L=(match lv.ownBlock with | some g=>[g] | none=>[]):=⟨_,rfl⟩
 have II:∀g,g∈L→lv.ownBlock=some g:=fun g hm=>by
  rw [hL] at hm
  cases hb:lv.ownBlock with
  | none=>rw [hb] at hm;simp at hm
  | some g'=>rw [hb] at hm;simp at hm;rw [hm]
 have hk1:Kept L wr w1:=Kept.grown hg (fun k hk=>by rw [hL,hk];simp)
 have hk2:Kept [wb] w1 (w1.setCell ⟨wb,0,none⟩ Rn):=(Kept.refl _ _).set _ _ _ (.inl (by simp))
 have hw1:w1.heap[wb]?=some (.cells #[lv,.map (some mb)] 136 (0,0)):=hk1.at h.words (fun hm=>(a1 _ (II _ hm)).2.1 rfl)
 have Y6:∀g,Rn.ownBlock=some g→g≠wb:=fun g hg'=>by
  rcases hl with e | ⟨g2,e,h2⟩
  ·rw [e] at hg';exact (a1 g hg').2.1
  rw [e] at hg';cases hg'
  have:=h.UD;have:=h.kept.size;omega
 refine⟨?_,h.mlt,h.UD,heap_setCell_same w1 wb 0 _ _ _ hw1,?_,(h.found.kept hk1 (fun hm=>(a1 _ (II _ hm)).1 rfl) (fun s g hs hm=>(a2 s g hs).2.2 (II _ hm))).kept hk2 (by simp only [List.mem_singleton];intro e;have h1:=h.words;have h2:=h.found.map;obtain⟨D,⟨es,clock,hb,-⟩,-⟩:=h2;rw [e,h1] at hb;cases hb) (fun s g hs hm=>by simp only [List.mem_singleton] at hm;exact (a2 s g hs).2.1 hm),fun y hy=>?_⟩
 ·refine (h.kept.trans' hk1 (fun g hm=>.inr ?_)).trans' hk2 (by simp)
  exact (iK h.list (II g hm)).1
 ·rw [List.length_append,←qY]
  exact hk2.own hown (fun g hg' hm=>by simp only [List.mem_singleton] at hm;exact Y6 g hg' hm)
 have key:∀g,g < wr.heap.size→lv.ownBlock≠some g→g≠wb→(w1.setCell ⟨wb,0,none⟩ Rn).heap[g]?=wr.heap[g]?:=fun g q1 q2 q5=>by
  rw [Below.heap_setCell _ _ _ _ (by simpa using q5)]
  exact hk1.block g q1 (fun hm=>q2 (II g hm))
 have hy2:FS wr y.2.1 y.2.2∧∀g o n c,y.2.1=.slice (some ⟨g,o,none⟩) n c→n≠0→g < wr.heap.size∧lv.ownBlock≠some g∧(∀s,(hd s).ownBlock≠some g)∧g≠mb∧g≠wb:=by
  rcases List.mem_append.1 hy with hy | hy
  ·exact h.fl y hy
  simp only [List.mem_singleton] at hy;subst hy;exact⟨hx,hx2⟩
 refine⟨hy2.1.blocks (fun g o n c e hn=>by obtain⟨q1,q2,-,-,q5⟩:=hy2.2 g o n c e hn;exact key g q1 q2 q5),fun g o n c e hn=>?_⟩
 obtain⟨q1,q2,q3,q4,q5⟩:=hy2.2 g o n c e hn
 refine⟨Nat.lt_of_lt_of_le q1 (by simpa using hk1.size),?_,q3,q4,q5⟩
 rcases hl with e2 | ⟨g2,e2,h2⟩
 ·rw [e2];exact q2
 rw [e2];intro e3;cases e3;omega
theorem DW.ne (h:DW W wr mb wb n lv xs hd ix):wb≠mb:=fun e=>by
 have h1:=h.words
 obtain⟨D,⟨es,clock,hb,-⟩,-⟩:=h.found.map;rw [e,hb] at h1;cases h1
theorem DW.store (h:DW W wr mb wb n lv xs hd ix) (s:ByteArray) (x:Int) (v':Value) {w1:World} (hs:s.size≤maxLen) (hn:n < maxLen)
  (hv:w1.ownsRow W.heap.size 3 1 v' ((ix s).length+1) ((ix s).map (Value.int .i64)++[Value.int .i64 x])) (hg:wr.grownBy w1 (hd s).ownBlock) (hl:v'.ownBlock=(hd s).ownBlock∨∃g,v'.ownBlock=some g∧wr.heap.size≤g) :
  ∃w2,(Instr.mapUpdate 134 (.map (some mb)) (.string s) v').run Tryz.prog w1=.ok () w2∧DW W w2 mb wb (n+1) lv xs (D7 hd s v') (D7 ix s (ix s++[x]))∧∀y,y < wr.heap.size→(hd s).ownBlock≠some y→y≠mb→w2.heap[y]?=wr.heap[y]?:=by
 obtain⟨a1,a2⟩:=h.apart
 have hne:=h.ne;have hks:=h.kept.size;have hm:=h.mlt;have hw:=h.UD
 obtain⟨w2,hrun,hF,hg2⟩:=h.found.store s x v' hs hn (by omega) hv hg hl
 obtain⟨L,hL⟩:∃L:List Nat,L=(match (hd s).ownBlock with | some g=>[g] | none=>[]):=⟨_,rfl⟩
 have II:∀g,g∈L→(hd s).ownBlock=some g:=fun g hm=>by
  rw [hL] at hm
  cases hb:(hd s).ownBlock with
  | none=>rw [hb] at hm;simp at hm
  | some g'=>rw [hb] at hm;simp at hm;rw [hm]
 have hk1:Kept L wr w1:=Kept.grown hg (fun k hk=>by rw [hL,hk];simp)
 have hk2:Kept [mb] w1 w2:=Kept.grown hg2 (fun k hk=>by cases hk;simp)
 have key:∀g,g < wr.heap.size→(∀u,(hd u).ownBlock≠some g)→g≠mb→w2.heap[g]?=wr.heap[g]?:=fun g q1 q3 q4 =>
  (hk2.block g (Nat.lt_of_lt_of_le q1 hk1.size) (by simpa using q4)).trans (hk1.block g q1 (fun hm=>q3 s (II g hm)))
 have key2:∀y,y < wr.heap.size→(hd s).ownBlock≠some y→y≠mb→w2.heap[y]?=wr.heap[y]?:=fun g q1 q3 q4 =>
  (hk2.block g (Nat.lt_of_lt_of_le q1 hk1.size) (by simpa using q4)).trans (hk1.block g q1 (fun hm=>q3 (II g hm)))
 refine⟨w2,hrun,⟨(h.kept.trans' hk1 (fun g hg'=>.inr (iK (h.found.rows s) (II g hg')).1)).trans' hk2 (by simp),hm,hw,?_,?_,hF,fun y hy=>?_⟩,key2⟩
 ·exact hk2.at (hk1.at h.words (fun hm=>(a2 s _ (II _ hm)).2.1 rfl)) (by simpa using hne)
 ·exact hk2.own (hk1.own h.list (fun g hg' hm=>(a2 s g (II g hm)).2.2 hg')) (fun g hg' hm=>by simp only [List.mem_singleton] at hm;exact (a1 g hg').1 hm)
 obtain⟨h1,h2⟩:=h.fl y hy
 refine⟨h1.blocks (fun g o n c e hn=>by obtain⟨q1,q2,q3,q4,q5⟩:=h2 g o n c e hn;exact key g q1 q3 q4),fun g o n c e hn=>?_⟩
 obtain⟨q1,q2,q3,q4,q5⟩:=h2 g o n c e hn
 refine⟨Nat.lt_of_lt_of_le q1 (Nat.le_trans hk1.size hk2.size),q2,fun u=>?_,q4,q5⟩
 by_cases hu:u=s
 ·subst hu
  rw [iO]
  rcases hl with e2 | ⟨g2,e2,hg3⟩
  ·rw [e2];exact q3 u
  rw [e2];intro e3;cases e3;omega
 rw [fM _ _ hu];exact q3 u
end
end Go.Proofs.YtfkblpjfknfgbaaGreatDoor
