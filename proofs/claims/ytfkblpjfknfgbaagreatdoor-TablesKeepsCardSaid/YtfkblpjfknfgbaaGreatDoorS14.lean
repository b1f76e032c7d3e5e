/-
 Parts of the proof: AL2, DC3, DR1, DC4, DC5.
-/
import Derived.BigQuiet
import Derived.Test.YtfkblpjfknfgbaaGreatDoorRows
import Derived.Test.YtfkblpjfknfgbaaGreatDoorS13
import Derived.Test.YtfkblpjfknfgbaaGreatDoorS5
import Derived.Test.YtfkblpjfknfgbaaGreatDoorS8
set_option linter.unusedVariables false
set_option linter.unusedSimpArgs false
set_option maxHeartbeats 8000000
set_option maxRecDepth 100000
open Go.Maps Go.RowKit Go.WideMaps
open Go.Lib (hid cell_of_heap frozen_of_heap)
open Go.World (block_lt_of_cell?)
namespace Go.Proofs.YtfkblpjfknfgbaaGreatDoor
structure AV where
 reps:Value
 als:Value
 cls:Value
 rls:Value
def affA (F:Fl) (a:AV):Array Value:=#[.int .i64 F.kind,.string F.charset,.string F.tryT,.int .u16 F.s0,.int .u16 F.s1,.int .u16 F.s2,.int .u16 F.s3,.int .u16 F.s4,.int .i64 F.least,a.reps,a.als,a.cls,a.rls]
def affV (F:Fl) (a:AV):Value:=.agg (affA F a)
theorem FN.kept {B:Nat} {X:List Nat} {W W':World} {v:Value} {zs:List Int} (h:FN B W v zs) (hk:Kept X W W') (hX:∀x∈X,x < B):FN B W' v zs:=by
 obtain⟨p,c,hv,hc,h⟩:=h
 refine⟨p,c,hv,hc,h.imp id ?_⟩
 rintro⟨g,off,hp,h1,h2⟩
 refine⟨g,off,hp,h1,fun i hi=>?_⟩
 obtain⟨h3,h4⟩:=h2 i hi
 have hb:=hk.block g (block_lt_of_cell? _ _ h3) (fun hm=>by have:=hX g hm;omega)
 exact⟨(World.cell?_of_block hb).trans h3,(World.frozen?_of_block hb).trans h4⟩
theorem own_kept {B e size n:Nat} {X:List Nat} {W W':World} {v:Value} {xs:List Value} (h:W.ownsRow B e size v n xs) (hk:Kept X W W') (hX:∀x∈X,x < B):W'.ownsRow B e size v n xs :=
 hk.own h (fun g hg hm=>by
  have:=h.1
  rcases h.2 with ⟨rfl,_⟩ | ⟨g',cap,cur,rfl,hB,_⟩
  ·simp [Value.ownBlock] at hg
  ·have e1:g'=g:=by simpa [Value.ownBlock] using hg
   have:=hX g hm
   omega)
theorem own_mono {B B' e size n:Nat} {W:World} {v:Value} {xs:List Value} (h:W.ownsRow B e size v n xs) (hB:B'≤B):W.ownsRow B' e size v n xs:=by
 refine⟨h.1,h.2.imp id ?_⟩
 rintro⟨g,cap,cur,hv,h1,r⟩
 exact⟨g,cap,cur,hv,Nat.le_trans hB h1,r⟩
theorem own_put {B e size n cap g:Nat} {W:World} {xs:List Value} (h:W.ownsRow B e size (.slice (some ⟨g,0,none⟩) n cap) n xs) (j:Nat) (u:Value):(W.setCell ⟨g,j,none⟩ u).ownsRow B e size (.slice (some ⟨g,0,none⟩) n cap) n (xs.set j u):=by
 refine⟨by rw [List.length_set];exact h.1,?_⟩
 rcases h.2 with ⟨hv,_⟩ | ⟨g',cap',cur,hv,h1,h2,h3,h4,h5,h6⟩
 ·cases hv
 cases hv
 refine .inr ⟨g,cap,cur.setIfInBounds j u,rfl,h1,heap_setCell_same W g j cur _ _ h2,h3,h4,by rw [Array.size_setIfInBounds];exact h5,?_⟩
 rw [Array.toList_setIfInBounds,←h6]
 exact List.take_set
theorem own_at {B e size n:Nat} {W:World} {v:Value} {xs:List Value} (h:W.ownsRow B e size v n xs) (hn:0 < n):∃g cap,v=.slice (some ⟨g,0,none⟩) n cap∧n≤cap∧B≤g∧g < W.heap.size∧(∀j u,xs[j]?=some u→W.cell? ⟨g,j,none⟩=some u)∧∀j,W.frozen? ⟨g,j,none⟩=false:=by
 rcases h.2 with ⟨_,h0⟩ | ⟨g,cap,cur,rfl,h1,h2,h3,h4,h5,h6⟩
 ·omega
 refine⟨g,cap,rfl,h3,h1,block_lt h2,fun j u hj=>?_,fun j=>frozen_of_heap h2 j⟩
 have:=h.cells (g:=g) rfl j u hj
 rwa [row_addr] at this
structure AffN (B:Nat) (w:World) (F:Fl) (a:AV):Prop where
 reps:w.ownsRow B 145 2 a.reps F.reps.length (repCells F.reps)
 als:∃us:List Value,w.ownsRow B 29 1 a.als F.als.length us∧us.length=F.als.length∧∀(k:Nat) u b,us[k]?=some u→F.als[k]?=some b→FN B w u b
 cls:w.ownsRow B 99 5 a.cls F.cls.length (clsCells F.cls)
 rls:∃rs:List (Rl×Value),rs.map (·.1)=F.rls∧w.ownsRow B 31 7 a.rls rs.length (rlsCells rs)∧∀r∈rs,FN B w r.2 r.1.next
theorem AffN.kept {B:Nat} {X:List Nat} {W W':World} {F:Fl} {a:AV} (h:AffN B W F a) (hk:Kept X W W') (hX:∀x∈X,x < B):AffN B W' F a:=by
 obtain⟨us,h1,h2,h3⟩:=h.als
 obtain⟨rs,h4,h5,h6⟩:=h.rls
 exact⟨own_kept h.reps hk hX,⟨us,own_kept h1 hk hX,h2,fun k u b hu hb=>(h3 k u b hu hb).kept hk hX⟩,own_kept h.cls hk hX,rs,h4,own_kept h5 hk hX,fun r hr=>(h6 r hr).kept hk hX⟩
theorem AffN.keep {B:Nat} {W W':World} {F:Fl} {a:AV} (h:AffN B W F a) (hb:Below W.heap.size W W'):AffN B W' F a:=h.kept (Kept.of_below (E:=[]) hb) (by simp)
theorem AffN.mono {B B':Nat} {W:World} {F:Fl} {a:AV} (h:AffN B W F a) (hB:B'≤B):AffN B' W F a:=by
 obtain⟨us,h1,h2,h3⟩:=h.als
 obtain⟨rs,h4,h5,h6⟩:=h.rls
 exact⟨own_mono h.reps hB,⟨us,own_mono h1 hB,h2,fun k u b hu hb=>(h3 k u b hu hb).mono hB⟩,own_mono h.cls hB,rs,h4,own_mono h5 hB,fun r hr=>(h6 r hr).mono hB⟩
theorem rls_set:∀(rs:List (Rl×Value)) (k:Nat) (hk:k < rs.length) (u:Value),(rlsCells rs).set (k*7+6) u=rlsCells (rs.set k (rs[k].1,u))
 | [],_,hk,_=>absurd hk (Nat.not_lt_zero _)
 | c::r,0,_,u=>rfl
 | c::r,k+1,hk,u=>by
   have hk':k < r.length:=by simpa using hk
   have:=rls_set r k hk' u
   have e:rlsCells (c::r)=[.int .i64 c.1.kind,.int .u16 c.1.flag,.bool c.1.cross,.string c.1.strip,.string c.1.add,.string c.1.cond,c.2]++rlsCells r:=by simp [rlsCells]
   have e2:rlsCells ((c::r).set (k+1) ((c::r)[k+1].1,u))=[.int .i64 c.1.kind,.int .u16 c.1.flag,.bool c.1.cross,.string c.1.strip,.string c.1.add,.string c.1.cond,c.2]++rlsCells (r.set k (r[k].1,u)):=by simp [rlsCells]
   rw [e2,←this,e,List.set_append_right _ _ (by simp;omega)]
   congr 2
   simp;omega
theorem map_fst_set (rs:List (Rl×Value)) (k:Nat) (hk:k < rs.length) (u:Value):(rs.set k (rs[k].1,u)).map (·.1)=rs.map (·.1):=by
 rw [List.map_set]
 apply List.ext_getElem
 ·simp
 intro i h1 h2
 rw [List.getElem_set]
 split
 ·rename_i e;subst e;simp
 rfl
structure Stg (w W:World) (F:Fl) (a:AV):Prop where
 base:Below w.heap.size w W
 out:W.heap[w.heap.size+1]?=some (.cells (affA F a) 83 (0,0))
 res:W.heap[w.heap.size]?=some (.cells #[.int .i64 0,.string ByteArray.empty,.string ByteArray.empty,.int .u16 0,.int .u16 0,.int .u16 0,.int .u16 0,.int .u16 0,.int .i64 0,.slice none 0 0,.slice none 0 0,.slice none 0 0,.slice none 0 0] 83 (0,0))
section
variable {w W W':World} {F:Fl} {a:AV}
theorem Stg.start (w:World) (F:Fl) (a:AV):Stg w ((w.alloc (.cells #[.int .i64 0,.string ByteArray.empty,.string ByteArray.empty,.int .u16 0,.int .u16 0,.int .u16 0,.int .u16 0,.int .u16 0,.int .i64 0,.slice none 0 0,.slice none 0 0,.slice none 0 0,.slice none 0 0] 83)).alloc (.cells (affA F a) 83)) F a:=by
 obtain⟨w1,hw1⟩:∃W,w.alloc (.cells #[.int .i64 0,.string ByteArray.empty,.string ByteArray.empty,.int .u16 0,.int .u16 0,.int .u16 0,.int .u16 0,.int .u16 0,.int .i64 0,.slice none 0 0,.slice none 0 0,.slice none 0 0,.slice none 0 0] 83)=W:=⟨_,rfl⟩
 have s1:w1.heap.size=w.heap.size+1:=by rw [←hw1];simp
 have b1:Below w.heap.size w w1:=by rw [←hw1];exact (Below.refl _ _).alloc (Nat.le_refl _) _
 have f1:w1.heap[w.heap.size]?=some (.cells #[.int .i64 0,.string ByteArray.empty,.string ByteArray.empty,.int .u16 0,.int .u16 0,.int .u16 0,.int .u16 0,.int .u16 0,.int .i64 0,.slice none 0 0,.slice none 0 0,.slice none 0 0,.slice none 0 0] 83 (0,0)):=by rw [←hw1];exact heap_alloc_new w _
 rw [hw1]
 have b2:Below w1.heap.size w1 (w1.alloc (.cells (affA F a) 83)):=(Below.refl _ _).alloc (Nat.le_refl _) _
 exact⟨b1.trans (b2.mono (by omega)),by rw [←s1];exact heap_alloc_new w1 _,(b2.block _ (by omega)).trans f1⟩
theorem Stg.size (h:Stg w W F a):w.heap.size+2≤W.heap.size:=block_lt h.out
theorem Stg.below (h:Stg w W F a) (hb:Below W.heap.size W W'):Stg w W' F a:=⟨h.base.trans (hb.mono h.base.size),(hb.block _ (block_lt h.out)).trans h.out,(hb.block _ (block_lt h.res)).trans h.res⟩
theorem Stg.setOut {a':AV} (h:Stg w W F a) (j:Nat) (u:Value) (harr:(affA F a).setIfInBounds j u=affA F a'):Stg w (W.setCell ⟨w.heap.size+1,j,none⟩ u) F a' :=
 ⟨h.base.setCell (by simp) _,by rw [←harr];exact heap_setCell_same _ _ j _ _ _ h.out,by rw [heap_setCell_other _ ⟨w.heap.size+1,j,none⟩ w.heap.size _ (by simp)];exact h.res⟩
theorem Stg.setRow (h:Stg w W F a) (g j:Nat) (u:Value) (hg:w.heap.size+2≤g):Stg w (W.setCell ⟨g,j,none⟩ u) F a :=
 ⟨h.base.setCell (by simp;omega) _,by rw [heap_setCell_other _ ⟨g,j,none⟩ (w.heap.size+1) _ (by simp;omega)];exact h.out,by rw [heap_setCell_other _ ⟨g,j,none⟩ w.heap.size _ (by simp;omega)];exact h.res⟩
theorem Stg.oc (h:Stg w W F a) (j:Nat):W.cell? ⟨w.heap.size+1,j,none⟩=(affA F a)[j]?:=cell_of_heap h.out j
theorem Stg.oz (h:Stg w W F a) (j:Nat):W.frozen? ⟨w.heap.size+1,j,none⟩=false:=frozen_of_heap h.out j
end
theorem oneRep (rs:List (ByteArray×ByteArray)):∀u∈repCells rs,u.oneCell'=true:=by
 intro u hu
 simp only [repCells,List.mem_flatMap] at hu
 obtain⟨x,_,hu⟩:=hu
 simp at hu;rcases hu with rfl | rfl<;>rfl
theorem oneCls (cs:List Cl):∀u∈clsCells cs,u.oneCell'=true:=by
 intro u hu
 simp only [clsCells,List.mem_flatMap] at hu
 obtain⟨x,_,hu⟩:=hu
 simp at hu;rcases hu with rfl | rfl | rfl | rfl | rfl<;>rfl
theorem FS.one {w:World} {v:Value} {zs:List Int} (h:FS w v zs):v.oneCell'=true:=by
 obtain⟨p,c,rfl,-⟩:=h;rfl
theorem oneRls {w:World} (rs:List (Rl×Value)) (h:∀r∈rs,FS w r.2 r.1.next):∀u∈rlsCells rs,u.oneCell'=true:=by
 intro u hu
 simp only [rlsCells,List.mem_flatMap] at hu
 obtain⟨x,hx,hu⟩:=hu
 simp at hu
 rcases hu with rfl | rfl | rfl | rfl | rfl | rfl | rfl
 case inr.inr.inr.inr.inr.inr=>exact (h x hx).one
 all_goals rfl
theorem oneAls {w:World} {us:List Value} {bs:List (List Int)} (hl:us.length=bs.length) (h:∀(k:Nat) u b,us[k]?=some u→bs[k]?=some b→FS w u b):∀u∈us,u.oneCell'=true:=by
 intro u hu
 obtain⟨k,hk,rfl⟩:=List.mem_iff_getElem.1 hu
 exact (h k us[k] bs[k] (List.getElem?_eq_getElem hk) (List.getElem?_eq_getElem (by omega))).one
def AlsM (w:World) (G:Nat) (W:World) (us:List Value) (bs:List (List Int)) (k:Nat):Prop:=us.length=bs.length∧∀(j:Nat) u b,us[j]?=some u→bs[j]?=some b→(j < k→FN G W u b)∧(k≤j→FS w u b)
theorem AlsM.kept {w:World} {G:Nat} {X:List Nat} {W W':World} {us:List Value} {bs:List (List Int)} {k:Nat} (h:AlsM w G W us bs k) (hk:Kept X W W') (hX:∀x∈X,x < G):AlsM w G W' us bs k :=
 ⟨h.1,fun j u b hu hb'=>⟨fun hj=>((h.2 j u b hu hb').1 hj).kept hk hX,(h.2 j u b hu hb').2⟩⟩
theorem AlsM.step {w:World} {G:Nat} {W:World} {us:List Value} {bs:List (List Int)} {k:Nat} (h:AlsM w G W us bs k) (hk:k < bs.length) {u:Value} (hu:FN G W u bs[k]):AlsM w G W (us.set k u) bs (k+1):=by
 refine⟨by rw [List.length_set];exact h.1,fun j u' b hu' hb=>?_⟩
 rw [List.getElem?_set] at hu'
 by_cases e:k=j
 ·subst e
  rw [if_pos rfl,if_pos (by rw [h.1];exact hk)] at hu'
  cases hu'
  rw [List.getElem?_eq_getElem hk] at hb
  cases hb
  exact⟨fun _=>hu,fun h=>absurd h (by omega)⟩
 rw [if_neg e] at hu'
 exact⟨fun hj=>(h.2 j u' b hu' hb).1 (by omega),fun hj=>(h.2 j u' b hu' hb).2 (by omega)⟩
def RlsM (w:World) (G:Nat) (W:World) (rs:List (Rl×Value)) (k:Nat):Prop:=∀(j:Nat) (hj:j < rs.length),(j < k→FN G W rs[j].2 rs[j].1.next)∧(k≤j→FS w rs[j].2 rs[j].1.next)
theorem RlsM.kept {w:World} {G:Nat} {X:List Nat} {W W':World} {rs:List (Rl×Value)} {k:Nat} (h:RlsM w G W rs k) (hk:Kept X W W') (hX:∀x∈X,x < G):RlsM w G W' rs k :=
 fun j hj=>⟨fun hk'=>((h j hj).1 hk').kept hk hX,(h j hj).2⟩
theorem RlsM.step {w:World} {G:Nat} {W:World} {rs:List (Rl×Value)} {k:Nat} (h:RlsM w G W rs k) (hk:k < rs.length) {u:Value} (hu:FN G W u rs[k].1.next):RlsM w G W (rs.set k (rs[k].1,u)) (k+1):=by
 intro j hj
 rw [List.length_set] at hj
 rw [List.getElem_set]
 split
 ·rename_i e;subst e
  exact⟨fun _=>hu,fun h=>absurd h (by omega)⟩
 rename_i e
 exact⟨fun hj'=>(h j hj).1 (by omega),fun hj'=>(h j hj).2 (by omega)⟩
theorem so_Affixes (fb:Nat) (F:Fl) (w:World) (h:FileAt w fb F) (hok:FlOk F) :
  Calls Tryz.prog 30 #[.pointer (some ⟨fb,0,none⟩)] w fun e w'=>∃a,e=.returned (affV F a)∧AffN w.heap.size w' F a∧Below w.heap.size w w':=by
 obtain⟨i,v,n,h0,h1,-,h3,⟨us,h4,h5,h6⟩,h7,rs,h8,h9,h10⟩:=h.mem
 have c0:w.cell? ⟨fb,0,none⟩=some (.int .i64 F.kind):=by rw [cell_of_heap h1];rfl
 have c1:w.cell? ⟨fb,1,none⟩=some (.string F.charset):=by rw [cell_of_heap h1];rfl
 have c2:w.cell? ⟨fb,2,none⟩=some (.string F.tryT):=by rw [cell_of_heap h1];rfl
 have c3:w.cell? ⟨fb,3,none⟩=some (.int .u16 F.s0):=by rw [cell_of_heap h1];rfl
 have c4:w.cell? ⟨fb,4,none⟩=some (.int .u16 F.s1):=by rw [cell_of_heap h1];rfl
 have c5:w.cell? ⟨fb,5,none⟩=some (.int .u16 F.s2):=by rw [cell_of_heap h1];rfl
 have c6:w.cell? ⟨fb,6,none⟩=some (.int .u16 F.s3):=by rw [cell_of_heap h1];rfl
 have c7:w.cell? ⟨fb,7,none⟩=some (.int .u16 F.s4):=by rw [cell_of_heap h1];rfl
 have c8:w.cell? ⟨fb,8,none⟩=some (.int .i64 F.least):=by rw [cell_of_heap h1];rfl
 have c9:w.cell? ⟨fb,9,none⟩=some v.reps:=by rw [cell_of_heap h1];rfl
 have c10:w.cell? ⟨fb,10,none⟩=some v.als:=by rw [cell_of_heap h1];rfl
 have c11:w.cell? ⟨fb,11,none⟩=some v.cls:=by rw [cell_of_heap h1];rfl
 have c12:w.cell? ⟨fb,12,none⟩=some v.rls:=by rw [cell_of_heap h1];rfl
 have hfb:=block_lt h1
 have HRp:=hid h3
 have HCl:=hid h7
 have HAl:=hid (⟨h4,h5,h6⟩:_∧_∧_)
 have HRl:=hid (⟨h8,h9,h10⟩:_∧_∧_)
 have HOk:=hid hok
 obtain⟨vr,va,vc,vl⟩:=v
 dsimp only at c9 c10 c11 c12 HRp HCl HAl HRl
 obtain⟨-,Ar,kr,rfl,-,-⟩:=h3
 obtain⟨-,Aa,ka,rfl,-,-⟩:=h4
 obtain⟨-,Ac,kc,rfl,-,-⟩:=h7
 obtain⟨-,Al,kl,rfl,-,-⟩:=h9
 clear h h0 h1 h5 h6 h8 h10 hok
 go_enter Tryz.func30,Tryz.ntmps30
 go_upto_region 3 with fail
 go_cut [3] from 10 to 13 (fun p W=>p=.pointer (some ⟨w.heap.size+1,0,none⟩)∧Hid (Stg w W F ⟨.slice Ar F.reps.length kr,.slice Aa F.als.length ka,.slice Ac F.cls.length kc,.slice Al rs.length kl⟩))
 case first =>
  go_wp2_with fail
  all_goals go_meet
  all_goals exact⟨rfl,hid (Stg.start w F ⟨.slice Ar F.reps.length kr,.slice Aa F.als.length ka,.slice Ac F.cls.length kc,.slice Al rs.length kl⟩)⟩
 case rest =>
 obtain⟨rfl,HS0⟩:=hcut
 clear c0 c1 c2 c3 c4 c5 c6 c7 c8 c9 c10 c11 c12 hfb
 have HQ1:Hid (∀W,Below w.heap.size w W→Calls Tryz.prog 57 #[.slice Ar F.reps.length kr] W fun e w'=>∃v',e=.returned v'∧Own W w' 145 2 v' F.reps.length (repCells F.reps)):=hid (fun W hb=>so_CloneRep _ _ _ W (HRp.out.keep hb) (oneRep _) HOk.out.reps)
 have HQ2:Hid (∀W,Below w.heap.size w W→Calls Tryz.prog 58 #[.slice Ac F.cls.length kc] W fun e w'=>∃v',e=.returned v'∧Own W w' 99 5 v' F.cls.length (clsCells F.cls)):=hid (fun W hb=>so_CloneCls _ _ _ W (HCl.out.keep hb) (oneCls _) HOk.out.cls)
 have HQ3:Hid (∀W,Below w.heap.size w W→Calls Tryz.prog 59 #[.slice Aa F.als.length ka] W fun e w'=>∃v',e=.returned v'∧Own W w' 29 1 v' F.als.length us):=hid (fun W hb=>so_CloneAls _ _ _ W (HAl.out.1.keep hb) (oneAls HAl.out.2.1 HAl.out.2.2) HOk.out.als)
 have hrn:rs.length=F.rls.length:=by rw [←HRl.out.1];simp
 have HQ4:Hid (∀W,Below w.heap.size w W→Calls Tryz.prog 60 #[.slice Al rs.length kl] W fun e w'=>∃v',e=.returned v'∧Own W w' 31 7 v' rs.length (rlsCells rs)):=hid (fun W hb=>so_CloneRls _ _ _ W (HRl.out.2.1.keep hb) (oneRls rs HRl.out.2.2) (by rw [hrn];exact HOk.out.rls))
 have HNr:=hid hrn
 clear hrn
 obtain⟨w2,hw2⟩:∃W:World,W=wc:=⟨_,rfl⟩
 rw [←hw2] at HS0 ⊢
 clear hw2 wc
 go_upto_region 4 with fail
 go_cut [] from 14 to 18 (fun W=>∃A k,Hid (Stg w W F ⟨.slice A F.reps.length k,.slice Aa F.als.length ka,.slice Ac F.cls.length kc,.slice Al rs.length kl⟩)∧Hid (W.ownsRow (w.heap.size+2) 145 2 (.slice A F.reps.length k) F.reps.length (repCells F.reps)))
 case first =>
  have d9:w2.cell? ⟨w.heap.size+1,9,none⟩=some (.slice Ar F.reps.length kr):=HS0.out.oc 9
  go_wp2_with (go_at_call 57;refine (HQ1.out _ HS0.out.base).mono ?_;rintro e w3 ⟨v3,rfl,ho⟩;obtain⟨A3,k3,rfl⟩:=own_slice ho.own;have HO3:=hid ho;have HS3:=hid (HS0.out.below ho.below);have e9:w3.cell? ⟨w.heap.size+1,9,none⟩=some (.slice Ar F.reps.length kr):=HS3.out.oc 9;have z9:=HS3.out.oz 9;clear ho)
  all_goals go_meet
  all_goals exact⟨A3,k3,hid (HS3.out.setOut 9 _ (by rfl)),hid (own_kept (own_mono HO3.out.own HS0.out.size) (set_kept _ _ _ _) (by simp))⟩
 case rest =>
 obtain⟨A1,k1,HSA,HRA⟩:=hcut
 obtain⟨wA,hwA⟩:∃W:World,W=wc:=⟨_,rfl⟩
 rw [←hwA] at HSA HRA ⊢
 clear hwA wc HS0 HQ1
 go_upto_region 5 with fail
 go_cut [] from 18 to 21 (fun W=>∃A k,Hid (Stg w W F ⟨.slice A1 F.reps.length k1,.slice Aa F.als.length ka,.slice A F.cls.length k,.slice Al rs.length kl⟩)∧Hid (W.ownsRow (w.heap.size+2) 145 2 (.slice A1 F.reps.length k1) F.reps.length (repCells F.reps))∧Hid (W.ownsRow (w.heap.size+2) 99 5 (.slice A F.cls.length k) F.cls.length (clsCells F.cls)))
 case first =>
  have d11:wA.cell? ⟨w.heap.size+1,11,none⟩=some (.slice Ac F.cls.length kc):=HSA.out.oc 11
  go_wp2_with (go_at_call 58;refine (HQ2.out _ HSA.out.base).mono ?_;rintro e w3 ⟨v3,rfl,ho⟩;obtain⟨A3,k3,rfl⟩:=own_slice ho.own;have HO3:=hid ho;have HS3:=hid (HSA.out.below ho.below);have e11:w3.cell? ⟨w.heap.size+1,11,none⟩=some (.slice Ac F.cls.length kc):=HS3.out.oc 11;have z11:=HS3.out.oz 11;clear ho)
  all_goals go_meet
  all_goals exact⟨A3,k3,hid (HS3.out.setOut 11 _ (by rfl)),hid (own_kept (own_below HRA.out HO3.out.below) (set_kept _ _ _ _) (by simp)),hid (own_kept (own_mono HO3.out.own HSA.out.size) (set_kept _ _ _ _) (by simp))⟩
 case rest =>
 obtain⟨A2,k2,HSB,HRB,HCB⟩:=hcut
 obtain⟨wB,hwB⟩:∃W:World,W=wc:=⟨_,rfl⟩
 rw [←hwB] at HSB HRB HCB ⊢
 clear hwB wc HSA HRA HQ2
 go_upto_region 6 with fail
 go_cut [] from 22 to 25 (fun W=>∃A k,Hid (Stg w W F ⟨.slice A1 F.reps.length k1,.slice A F.als.length k,.slice A2 F.cls.length k2,.slice Al rs.length kl⟩)∧Hid (Kept [w.heap.size+1] wB W)∧Hid (W.ownsRow wB.heap.size 29 1 (.slice A F.als.length k) F.als.length us))
 case first =>
  have d10:wB.cell? ⟨w.heap.size+1,10,none⟩=some (.slice Aa F.als.length ka):=HSB.out.oc 10
  go_wp2_with (go_at_call 59;refine (HQ3.out _ HSB.out.base).mono ?_;rintro e w3 ⟨v3,rfl,ho⟩;obtain⟨A3,k3,rfl⟩:=own_slice ho.own;have HO3:=hid ho;have HS3:=hid (HSB.out.below ho.below);have e10:w3.cell? ⟨w.heap.size+1,10,none⟩=some (.slice Aa F.als.length ka):=HS3.out.oc 10;have z10:=HS3.out.oz 10;clear ho)
  all_goals go_meet
  all_goals exact⟨A3,k3,hid (HS3.out.setOut 10 _ (by rfl)),hid ((Kept.of_below HO3.out.below).set _ _ _ (.inl (by simp))),hid (own_kept HO3.out.own (set_kept _ _ _ _) (by have:=HSB.out.size;simp;omega))⟩
 case rest =>
 obtain⟨A3,k3,HSC,HKC,HOC⟩:=hcut
 obtain⟨wC,hwC⟩:∃W:World,W=wc:=⟨_,rfl⟩
 rw [←hwC] at HSC HKC HOC ⊢
 clear hwC wc HQ3
 have d10:wC.cell? ⟨w.heap.size+1,10,none⟩=some (.slice A3 F.als.length k3):=HSC.out.oc 10
 have hbB:=HSB.out.size
 have hnA:=HOk.out.als
 have HG:Hid (AlsM w wC.heap.size wC us F.als 0):=hid ⟨HAl.out.2.1,fun j u b hu hb=>⟨fun h=>absurd h (Nat.not_lt_zero _),fun _=>HAl.out.2.2 j u b hu hb⟩⟩
 obtain⟨na,hna⟩:∃n,F.als.length=n:=⟨_,rfl⟩
 have HNa:=hid hna
 rw [hna] at d10 hnA HSC HOC
 have HGC:Hid (∀g,A3=some ⟨g,0,none⟩→0 < na→g < wC.heap.size):=hid (fun g hA hn=>by
  obtain⟨g',cap,hv,-,-,hl,-⟩:=own_at HOC.out hn
  injection hv with e1
  rw [hA] at e1
  injection e1 with e1
  injection e1 with e1
  omega)
 go_wp2_with fail
 go_loopw [4,5,29] (fun _ _ x wr=>∃(k:Nat) (us':List Value),k≤na∧x=.int .i64 k∧Hid (Stg w wr F ⟨.slice A1 F.reps.length k1,.slice A3 na k3,.slice A2 F.cls.length k2,.slice Al rs.length kl⟩)∧Hid (wr.ownsRow wB.heap.size 29 1 (.slice A3 na k3) na us')∧Hid (AlsM w wC.heap.size wr us' F.als k)∧Hid (Kept [w.heap.size+1] wB wr)∧Hid (wC.heap.size≤wr.heap.size)) (fun _ _ x _=>na - (intOf x).toNat)
 case atStart=>exact⟨0,us,Nat.zero_le _,rfl,HSC,HOC,HG,HKC,hid (Nat.le_refl _)⟩
 case round =>
 obtain⟨k,us',hk,rfl,HSr,HOr,HMr,HKr,HZr⟩:=hrel
 clear d10 HG HSC HOC
 by_cases hlt:k < na
 ·obtain⟨g,cap,hva,hcap,hg,hgl,hcs,hzs⟩:=own_at HOr.out (by omega)
  cases hva
  have hk2:k < F.als.length:=by have:=HNa.out;omega
  have hku:k < us'.length:=by rw [HMr.out.1];exact hk2
  have dk:=hcs k us'[k] (List.getElem?_eq_getElem hku)
  have zk:=hzs k
  have hfs:=(HMr.out.2 k us'[k] F.als[k] (List.getElem?_eq_getElem hku) (List.getElem?_eq_getElem hk2)).2 (Nat.le_refl _)
  obtain⟨u,hu⟩:∃u,us'[k]=u:=⟨_,rfl⟩
  obtain⟨b,hb⟩:∃b,F.als[k]=b:=⟨_,rfl⟩
  rw [hu] at dk hfs
  rw [hb] at hfs
  have HBk:Hid (F.als[k]=b):=hid hb
  have hbl:=HOk.out.sets b (by rw [←hb];exact List.getElem_mem hk2)
  have hbn:=canon_len hbl.1 hbl.2
  have HQf:Hid (∀W,Below w.heap.size w W→Calls Tryz.prog 40 #[u] W fun e w'=>∃v',e=.returned v'∧FN W.heap.size w' v' b∧Below W.heap.size W w'):=hid (fun W hW=>so_CloneF u b W (hfs.keep hW) (by omega))
  obtain⟨pu,cu,rfl,-⟩:=hfs
  have HSo:Hid (∀W,Below wr.heap.size wr W→W.cell? ⟨w.heap.size+1,10,none⟩=some (.slice (some ⟨g,0,none⟩) na k3)):=hid (fun W hW=>(HSr.out.below hW).oc 10)
  have hgC:g < wC.heap.size:=HGC.out g rfl (by omega)
  have hkn:(k:Int) < (na:Int):=by omega
  clear hcs hzs hu hb hbl
  go_upto_region 10 with fail
  refine wp_region_held_drew (S:=fun W=>W.cell? ⟨w.heap.size+1,10,none⟩=some (.slice (some ⟨g,0,none⟩) na k3)) (by kernel_rfl) ?_ (fun hHeld=>?_)
  ·exact HSo.out _ drew_below
  refine tkA 0 (some 34) hHeld ?_;try simp only [put_norm]
  refine tkA 1 (some 35) hHeld ?_;try simp only [put_norm]
  refine tkA 2 (some 36) hHeld ?_;try simp only [put_norm]
  refine tkA 3 (some 37) hHeld ?_;try simp only [put_norm]
  refine rdy1 4 (fun K hK=>?_)
  go_simp
  refine (HQf.out _ (HSr.out.base.trans ((drew_below (w:=wr)).mono HSr.out.base.size))).mono ?_
  rintro e w8 ⟨v8,rfl,hfn,hb8⟩
  obtain⟨p8,c8,rfl⟩:∃p c,v8=.slice p b.length c:=by obtain⟨p,c,hv,-⟩:=hfn;exact⟨p,c,hv⟩
  have HB8:Hid (Below wr.heap.size wr w8):=hid ((drew_below (w:=wr)).trans hb8)
  have HFN:=hid hfn
  have d8:=(HB8.out.cell (p:=⟨g,k,none⟩) hgl).trans dk
  have z8:=(HB8.out.frozen (p:=⟨g,k,none⟩) hgl).trans zk
  have HS9:Hid ((w8.setCell ⟨g,k,none⟩ (.slice p8 b.length c8)).cell? ⟨w.heap.size+1,10,none⟩=some (.slice (some ⟨g,0,none⟩) na k3)):=hid (((HSr.out.below HB8.out).setRow g k _ (by omega)).oc 10)
  clear hfn hb8
  refine hK.out _ _ ?_ (fun hHeld=>?_)
  ·exact HSo.out _ HB8.out
  clear hK K
  refine tkA 5 (some 39) hHeld ?_;try simp only [put_norm]
  refine rdy1 6 (fun K hK=>?_)
  go_simp
  refine hK.out _ _ ?_ (fun hHeld=>?_)
  ·exact HS9.out
  clear hK K
  refine wpAnyH_done (by kernel_rfl) ?_ _
  go_wp2_with fail
  go_roundw
  case rel=>exact⟨k+1,us'.set k (.slice p8 b.length c8),by omega,by go_num,hid ((HSr.out.below HB8.out).setRow g k _ (by omega)),hid (own_put (own_below HOr.out HB8.out) k _),hid (((HMr.out.kept (Kept.of_below (E:=[]) HB8.out) (by simp)).kept (set_kept _ _ _ _) (by simp;omega)).step hk2 (by rw [HBk.out];exact (HFN.out.mono HZr.out).kept (set_kept _ _ _ _) (by simp;omega))),hid ((HKr.out.trans (Kept.of_below HB8.out)).set _ _ _ (.inr hg)),hid (Nat.le_trans HZr.out (by rw [set_size];exact HB8.out.size))⟩
  case measure=>simp [intOf];omega
 obtain rfl:k=na:=by omega
 have HAl2:Hid (∃us:List Value,wr.ownsRow (w.heap.size+2) 29 1 (.slice A3 k k3) F.als.length us∧us.length=F.als.length∧∀(j:Nat) u b,us[j]?=some u→F.als[j]?=some b→FN (w.heap.size+2) wr u b):=hid ⟨us',by
  have:=own_mono HOr.out hbB
  rw [HNa.out];exact this,HMr.out.1,fun j u b hu hb=>((HMr.out.2 j u b hu hb).1 (by
  have h1:=(List.getElem?_eq_some_iff.1 hb).1
  have h2:=HNa.out
  omega)).mono (Nat.le_trans hbB HKC.out.size)⟩
 have HRp2:Hid (wr.ownsRow (w.heap.size+2) 145 2 (.slice A1 F.reps.length k1) F.reps.length (repCells F.reps)):=hid (own_kept HRB.out HKr.out (by simp))
 have HCl2:Hid (wr.ownsRow (w.heap.size+2) 99 5 (.slice A2 F.cls.length k2) F.cls.length (clsCells F.cls)):=hid (own_kept HCB.out HKr.out (by simp))
 clear HKC HSB HRB HCB HOr HMr HKr HZr hbB hnA HGC HAl HRp HCl
 obtain⟨wD,hwD⟩:∃W:World,W=wr:=⟨_,rfl⟩
 rw [←hwD] at HSr HAl2 HRp2 HCl2 ⊢
 clear hwD
 go_upto_region 12 with fail
 go_cut [] from 41 to 44 (fun W=>∃A kk,Hid (Stg w W F ⟨.slice A1 F.reps.length k1,.slice A3 k k3,.slice A2 F.cls.length k2,.slice A rs.length kk⟩)∧Hid (Kept [w.heap.size+1] wD W)∧Hid (W.ownsRow wD.heap.size 31 7 (.slice A rs.length kk) rs.length (rlsCells rs)))
 case first =>
  have d12:wD.cell? ⟨w.heap.size+1,12,none⟩=some (.slice Al rs.length kl):=HSr.out.oc 12
  go_wp2_with (go_at_call 60;refine (HQ4.out _ HSr.out.base).mono ?_;rintro e w3 ⟨v3,rfl,ho⟩;obtain⟨A4,k4,rfl⟩:=own_slice ho.own;have HO3:=hid ho;have HS3:=hid (HSr.out.below ho.below);have e12:w3.cell? ⟨w.heap.size+1,12,none⟩=some (.slice Al rs.length kl):=HS3.out.oc 12;have z12:=HS3.out.oz 12;clear ho)
  all_goals go_meet
  all_goals exact⟨A4,k4,hid (HS3.out.setOut 12 _ (by rfl)),hid ((Kept.of_below HO3.out.below).set _ _ _ (.inl (by simp))),hid (own_kept HO3.out.own (set_kept _ _ _ _) (by have:=HSr.out.size;simp;omega))⟩
 case rest =>
 obtain⟨A4,k4,HSE,HKE,HOE⟩:=hcut
 obtain⟨wE,hwE⟩:∃W:World,W=wc:=⟨_,rfl⟩
 rw [←hwE] at HSE HKE HOE ⊢
 clear hwE wc HQ4
 have d12:wE.cell? ⟨w.heap.size+1,12,none⟩=some (.slice A4 rs.length k4):=HSE.out.oc 12
 have hbD:=HSr.out.size
 have hnR:rs.length≤65536:=by rw [HNr.out];exact HOk.out.rls
 have HG:Hid (RlsM w wE.heap.size wE rs 0):=hid (fun j hj=>⟨fun h=>absurd h (Nat.not_lt_zero _),fun _=>HRl.out.2.2 _ (List.getElem_mem hj)⟩)
 have HRm:=hid HRl.out.1
 have HKE2:=hid HKE.out.size
 obtain⟨nr,hnr⟩:∃n,rs.length=n:=⟨_,rfl⟩
 have HNr2:=hid hnr
 rw [hnr] at d12 hnR HSE HOE
 have HGE:Hid (∀g,A4=some ⟨g,0,none⟩→0 < nr→g < wE.heap.size):=hid (fun g hA hn=>by
  obtain⟨g',cap,hv,-,-,hl,-⟩:=own_at HOE.out hn
  injection hv with e1
  rw [hA] at e1
  injection e1 with e1
  injection e1 with e1
  omega)
 go_wp2_with fail
 go_loopw [6,48] (fun _ x wr=>∃(m:Nat) (rs':List (Rl×Value)),m≤nr∧x=.int .i64 m∧Hid (rs'.length=nr)∧Hid (Stg w wr F ⟨.slice A1 F.reps.length k1,.slice A3 k k3,.slice A2 F.cls.length k2,.slice A4 nr k4⟩)∧Hid (wr.ownsRow wD.heap.size 31 7 (.slice A4 nr k4) nr (rlsCells rs'))∧Hid (rs'.map (·.1)=F.rls)∧Hid (RlsM w wE.heap.size wr rs' m)∧Hid (Kept [w.heap.size+1] wD wr)∧Hid (wE.heap.size≤wr.heap.size)) (fun _ x _=>nr - (intOf x).toNat)
 case atStart=>exact⟨0,rs,Nat.zero_le _,rfl,HNr2,HSE,HOE,HRm,HG,HKE,hid (Nat.le_refl _)⟩
 case round =>
 obtain⟨m,rs',hm,rfl,HLn,HSr2,HOr,HMp,HMr,HKr,HZr⟩:=hrel
 clear d12 HG HSE HOE HRm HKE
 by_cases hlt:m < nr
 ·obtain⟨g,cap,hva,hcap,hg,hgl,hcs,hzs⟩:=own_at HOr.out (by omega)
  cases hva
  have hmu:m < rs'.length:=by rw [HLn.out];exact hlt
  obtain⟨-,-,-,-,-,-,q6⟩:=rls_at rs' m hmu
  have dk:=hcs _ _ q6
  have zk:=hzs (m*7+6)
  have hfs:=(HMr.out m hmu).2 (Nat.le_refl _)
  obtain⟨r,hr⟩:∃r,rs'[m]=r:=⟨_,rfl⟩
  obtain⟨r1,u⟩:=r
  rw [hr] at dk hfs
  dsimp only at dk hfs
  have HRk:Hid (rs'[m]=(r1,u)):=hid hr
  have hin:r1∈F.rls:=by
   rw [←HMp.out]
   exact List.mem_map.2 ⟨rs'[m],List.getElem_mem hmu,by rw [hr]⟩
  have hbl:=HOk.out.nexts r1 hin
  have hbn:=canon_len hbl.1 hbl.2
  obtain⟨b,hb⟩:∃b,r1.next=b:=⟨_,rfl⟩
  rw [hb] at hfs hbn
  have HBk:=hid hb
  have HQf:Hid (∀W,Below w.heap.size w W→Calls Tryz.prog 40 #[u] W fun e w'=>∃v',e=.returned v'∧FN W.heap.size w' v' b∧Below W.heap.size W w'):=hid (fun W hW=>so_CloneF u b W (hfs.keep hW) (by omega))
  obtain⟨pu,cu,rfl,-⟩:=hfs
  have HSo:Hid (∀W,Below wr.heap.size wr W→W.cell? ⟨w.heap.size+1,12,none⟩=some (.slice (some ⟨g,0,none⟩) nr k4)):=hid (fun W hW=>(HSr2.out.below hW).oc 12)
  have hgE:g < wE.heap.size:=HGE.out g rfl (by omega)
  have hmn:(m:Int) < (nr:Int):=by omega
  clear hcs hzs hr hb hbl hin q6
  go_upto_region 16 with fail
  refine wp_region_held_drew (S:=fun W=>W.cell? ⟨w.heap.size+1,12,none⟩=some (.slice (some ⟨g,0,none⟩) nr k4)) (by kernel_rfl) ?_ (fun hHeld=>?_)
  ·exact HSo.out _ drew_below
  refine tkA 0 (some 51) hHeld ?_;try simp only [put_norm]
  refine tkA 1 (some 52) hHeld ?_;try simp only [put_norm]
  refine tkA 2 (some 53) hHeld ?_;try simp only [put_norm]
  refine tkA 3 (some 54) hHeld ?_;try simp only [put_norm]
  refine tkA 4 (some 55) hHeld ?_;try simp only [put_norm]
  refine tkA 5 (some 56) hHeld ?_;try simp only [put_norm]
  refine tkA 6 (some 57) hHeld ?_;try simp only [put_norm]
  refine tkA 7 (some 58) hHeld ?_;try simp only [put_norm]
  refine rdy1 8 (fun K hK=>?_)
  go_simp
  refine hK.out _ _ ?_ (fun hHeld=>?_)
  ·first | exact HSo.out _ drew_below | exact HS9.out
  clear hK K
  refine rdy1 9 (fun K hK=>?_)
  go_simp
  refine (HQf.out _ (HSr2.out.base.trans ((drew_below (w:=wr)).mono HSr2.out.base.size))).mono ?_
  rintro e w8 ⟨v8,rfl,hfn,hb8⟩
  obtain⟨p8,c8,rfl⟩:∃p c,v8=.slice p b.length c:=by obtain⟨p,c,hv,-⟩:=hfn;exact⟨p,c,hv⟩
  have HB8:Hid (Below wr.heap.size wr w8):=hid ((drew_below (w:=wr)).trans hb8)
  have HFN:=hid hfn
  have d8:=(HB8.out.cell (p:=⟨g,m*7+6,none⟩) hgl).trans dk
  have z8:=(HB8.out.frozen (p:=⟨g,m*7+6,none⟩) hgl).trans zk
  have HS9:Hid ((w8.setCell ⟨g,m*7+6,none⟩ (.slice p8 b.length c8)).cell? ⟨w.heap.size+1,12,none⟩=some (.slice (some ⟨g,0,none⟩) nr k4)):=hid (((HSr2.out.below HB8.out).setRow g (m*7+6) _ (by omega)).oc 12)
  clear hfn hb8
  refine hK.out _ _ ?_ (fun hHeld=>?_)
  ·exact HSo.out _ HB8.out
  clear hK K
  refine tkA 10 (some 61) hHeld ?_;try simp only [put_norm]
  refine tkA 11 (some 62) hHeld ?_;try simp only [put_norm]
  refine rdy1 12 (fun K hK=>?_)
  go_simp
  refine hK.out _ _ ?_ (fun hHeld=>?_)
  ·first | exact HSo.out _ drew_below | exact HS9.out
  clear hK K
  refine wpAnyH_done (by kernel_rfl) ?_ _
  go_wp2_with fail
  go_roundw
  case rel=>exact⟨m+1,rs'.set m (rs'[m].1,.slice p8 b.length c8),by omega,by go_num,hid (by rw [List.length_set];exact HLn.out),hid ((HSr2.out.below HB8.out).setRow g (m*7+6) _ (by omega)),hid (by rw [←rls_set rs' m hmu];exact own_put (own_below HOr.out HB8.out) (m*7+6) _),hid (by rw [map_fst_set rs' m hmu];exact HMp.out),hid (((HMr.out.kept (Kept.of_below (E:=[]) HB8.out) (by simp)).kept (set_kept _ _ _ _) (by simp;omega)).step hmu (by rw [HRk.out,HBk.out];exact (HFN.out.mono HZr.out).kept (set_kept _ _ _ _) (by simp;omega))),hid ((HKr.out.trans (Kept.of_below HB8.out)).set _ _ _ (.inr hg)),hid (Nat.le_trans HZr.out (by rw [set_size];exact HB8.out.size))⟩
  case measure=>simp [intOf];omega
 obtain rfl:m=nr:=by omega
 have HAff:Hid (AffN (w.heap.size+2) wr F ⟨.slice A1 F.reps.length k1,.slice A3 k k3,.slice A2 F.cls.length k2,.slice A4 m k4⟩):=hid (by
  obtain⟨ua,a1,a2,a3⟩:=HAl2.out
  refine⟨own_kept HRp2.out HKr.out (by simp),⟨ua,own_kept a1 HKr.out (by simp),a2,fun j u b hu hb=>(a3 j u b hu hb).kept HKr.out (by simp)⟩,own_kept HCl2.out HKr.out (by simp),rs',HMp.out,?_,fun r hr=>?_⟩
  ·rw [HLn.out];exact own_mono HOr.out hbD
  obtain⟨j,hj,rfl⟩:=List.mem_iff_getElem.1 hr
  exact ((HMr.out j hj).1 (by have:=HLn.out;omega)).mono (Nat.le_trans hbD HKE2.out))
 clear HAl2 HRp2 HCl2 HOr HMp HMr HKr HZr HLn
 have x0:wr.cell? ⟨w.heap.size+1,0,none⟩=some (.int .i64 F.kind):=HSr2.out.oc 0
 have x1:wr.cell? ⟨w.heap.size+1,1,none⟩=some (.string F.charset):=HSr2.out.oc 1
 have x2:wr.cell? ⟨w.heap.size+1,2,none⟩=some (.string F.tryT):=HSr2.out.oc 2
 have x3:wr.cell? ⟨w.heap.size+1,3,none⟩=some (.int .u16 F.s0):=HSr2.out.oc 3
 have x4:wr.cell? ⟨w.heap.size+1,4,none⟩=some (.int .u16 F.s1):=HSr2.out.oc 4
 have x5:wr.cell? ⟨w.heap.size+1,5,none⟩=some (.int .u16 F.s2):=HSr2.out.oc 5
 have x6:wr.cell? ⟨w.heap.size+1,6,none⟩=some (.int .u16 F.s3):=HSr2.out.oc 6
 have x7:wr.cell? ⟨w.heap.size+1,7,none⟩=some (.int .u16 F.s4):=HSr2.out.oc 7
 have x8:wr.cell? ⟨w.heap.size+1,8,none⟩=some (.int .i64 F.least):=HSr2.out.oc 8
 have x9:wr.cell? ⟨w.heap.size+1,9,none⟩=some (.slice A1 F.reps.length k1):=HSr2.out.oc 9
 have x10:wr.cell? ⟨w.heap.size+1,10,none⟩=some (.slice A3 k k3):=HSr2.out.oc 10
 have x11:wr.cell? ⟨w.heap.size+1,11,none⟩=some (.slice A2 F.cls.length k2):=HSr2.out.oc 11
 have x12:wr.cell? ⟨w.heap.size+1,12,none⟩=some (.slice A4 m k4):=HSr2.out.oc 12
 have hz:=cell_of_heap HSr2.out.res
 have z0:=hz 0
 have z1:=hz 1
 have z2:=hz 2
 have z3:=hz 3
 have z4:=hz 4
 have z5:=hz 5
 have z6:=hz 6
 have z7:=hz 7
 have z8:=hz 8
 have z9:=hz 9
 have z10:=hz 10
 have z11:=hz 11
 have z12:=hz 12
 simp only [List.getElem?_toArray,List.getElem?_cons_zero,List.getElem?_cons_succ] at z0 z1 z2 z3 z4 z5 z6 z7 z8 z9 z10 z11 z12
 have hy:=frozen_of_heap HSr2.out.res
 have y0:=hy 0
 have y1:=hy 1
 have y2:=hy 2
 have y3:=hy 3
 have y4:=hy 4
 have y5:=hy 5
 have y6:=hy 6
 have y7:=hy 7
 have y8:=hy 8
 have y9:=hy 9
 have y10:=hy 10
 have y11:=hy 11
 have y12:=hy 12
 clear hz hy
 go_wp2_with fail
 refine bodyPost_ret (v:=affV F ⟨.slice A1 F.reps.length k1,.slice A3 k k3,.slice A2 F.cls.length k2,.slice A4 m k4⟩) (by simp [results,Tryz.results30,go_sem,z0,z1,z2,z3,z4,z5,z6,z7,z8,z9,z10,z11,z12,affV,affA];try rfl) rfl ?_
 refine⟨_,rfl,(HAff.out.kept (X:=[w.heap.size]) ?_ (by simp)).mono (by omega),?_⟩
 ·exact (((((((((((((Kept.refl _ wr).set _ _ _ (.inl (by simp))).set _ _ _ (.inl (by simp))).set _ _ _ (.inl (by simp))).set _ _ _ (.inl (by simp))).set _ _ _ (.inl (by simp))).set _ _ _ (.inl (by simp))).set _ _ _ (.inl (by simp))).set _ _ _ (.inl (by simp))).set _ _ _ (.inl (by simp))).set _ _ _ (.inl (by simp))).set _ _ _ (.inl (by simp))).set _ _ _ (.inl (by simp))).set _ _ _ (.inl (by simp))
 exact (((((((((((((HSr2.out.base).setCell (by simp) _).setCell (by simp) _).setCell (by simp) _).setCell (by simp) _).setCell (by simp) _).setCell (by simp) _).setCell (by simp) _).setCell (by simp) _).setCell (by simp) _).setCell (by simp) _).setCell (by simp) _).setCell (by simp) _).setCell (by simp) _
def EntP (r:Except Int En) (w:World) (e:Ending) (w':World):Prop:=Below w.heap.size w w'∧match r with
 | .error c=>e=.returned (.tuple #[.agg #[.string ⟨#[]⟩,.slice none 0 0],.int .i64 c])
 | .ok x=>∃v,e=.returned (.tuple #[.agg #[.string x.1,v],.int .i64 0])∧FN w.heap.size w' v x.2
structure EW (w W:World) (F:Fl) (l:Int) (fv:Value):Prop where
 base:Below w.heap.size w W
 spec:W.heap[w.heap.size]?=some (.cells #[.int .u16 F.s0,.int .u16 F.s1,.int .u16 F.s2,.int .u16 F.s3,.int .u16 F.s4] 77 (0,0))
 row:W.heap[w.heap.size+1]?=some (.cells #[.int .i64 l,fv] 133 (0,0))
 res:W.heap[w.heap.size+2]?=some (.cells #[.string ⟨#[]⟩,.slice none 0 0] 35 (0,0))
section
variable {w W W':World} {F:Fl} {l:Int} {fv:Value}
theorem EW.start (w:World) (F:Fl) (l:Int) (fv:Value):EW w (((w.alloc (.cells #[.int .u16 F.s0,.int .u16 F.s1,.int .u16 F.s2,.int .u16 F.s3,.int .u16 F.s4] 77)).alloc (.cells #[.int .i64 l,fv] 133)).alloc (.cells #[.string ⟨#[]⟩,.slice none 0 0] 35)) F l fv:=by
 obtain⟨w1,hw1⟩:∃W,w.alloc (.cells #[.int .u16 F.s0,.int .u16 F.s1,.int .u16 F.s2,.int .u16 F.s3,.int .u16 F.s4] 77)=W:=⟨_,rfl⟩
 have s1:w1.heap.size=w.heap.size+1:=by rw [←hw1];simp
 have b1:Below w.heap.size w w1:=by rw [←hw1];exact (Below.refl _ _).alloc (Nat.le_refl _) _
 have f1:w1.heap[w.heap.size]?=some (.cells #[.int .u16 F.s0,.int .u16 F.s1,.int .u16 F.s2,.int .u16 F.s3,.int .u16 F.s4] 77 (0,0)):=by rw [←hw1];exact heap_alloc_new w _
 rw [hw1]
 obtain⟨w2,hw2⟩:∃W,w1.alloc (.cells #[.int .i64 l,fv] 133)=W:=⟨_,rfl⟩
 have s2:w2.heap.size=w.heap.size+2:=by rw [←hw2];simp [s1]
 have b2:Below w1.heap.size w1 w2:=by rw [←hw2];exact (Below.refl _ _).alloc (Nat.le_refl _) _
 have f2:w2.heap[w.heap.size+1]?=some (.cells #[.int .i64 l,fv] 133 (0,0)):=by rw [←hw2,←s1];exact heap_alloc_new w1 _
 rw [hw2]
 have b3:Below w2.heap.size w2 (w2.alloc (.cells #[.string ⟨#[]⟩,.slice none 0 0] 35)):=(Below.refl _ _).alloc (Nat.le_refl _) _
 exact⟨(b1.trans (b2.mono (by omega))).trans (b3.mono (by omega)),(b3.block _ (by omega)).trans ((b2.block _ (by omega)).trans f1),(b3.block _ (by omega)).trans f2,by rw [←s2];exact heap_alloc_new w2 _⟩
theorem EW.size (h:EW w W F l fv):w.heap.size+3≤W.heap.size:=block_lt h.res
theorem EW.below (h:EW w W F l fv) (hb:Below W.heap.size W W'):EW w W' F l fv :=
 ⟨h.base.trans (hb.mono h.base.size),(hb.block _ (block_lt h.spec)).trans h.spec,(hb.block _ (block_lt h.row)).trans h.row,(hb.block _ (block_lt h.res)).trans h.res⟩
theorem EW.r0 (h:EW w W F l fv):W.cell? ⟨w.heap.size+2,0,none⟩=some (.string ⟨#[]⟩):=cell_of_heap h.res 0
theorem EW.r1 (h:EW w W F l fv):W.cell? ⟨w.heap.size+2,1,none⟩=some (.slice none 0 0):=cell_of_heap h.res 1
theorem EW.z (h:EW w W F l fv) (j:Nat):W.frozen? ⟨w.heap.size+2,j,none⟩=false:=frozen_of_heap h.res j
theorem EW.f1 (h:EW w W F l fv):W.cell? ⟨w.heap.size+1,1,none⟩=some fv:=cell_of_heap h.row 1
theorem EW.fs (h:EW w W F l fv):FS W (.slice (some ⟨w.heap.size,0,none⟩) 5 5) [F.s0,F.s1,F.s2,F.s3,F.s4] :=
 ⟨_,5,rfl,by simp,.inr ⟨w.heap.size,0,rfl,fun j hj=>by
  rw [Nat.zero_add,cell_of_heap h.spec]
  rcases j with _ | _ | _ | _ | _ | j
  all_goals first | rfl | (simp only [List.length_cons,List.length_nil] at hj;omega)⟩⟩
theorem EW.done (h:EW w W F l fv) (u v:Value):Below w.heap.size w ((W.setCell ⟨w.heap.size+2,0,none⟩ u).setCell ⟨w.heap.size+2,1,none⟩ v):=(h.base.setCell (by simp) _).setCell (by simp) _
end
theorem FileAt.dfile {w:World} {fb:Nat} {F:Fl} (h:FileAt w fb F) (hok:FlOk F):∃av us,FileF w fb F.kind av us F.als:=by
 obtain⟨i,v,n,h0,h1,-,-,⟨us,h2,h3,h4⟩,-⟩:=h.mem
 exact⟨v.als,us,by rw [cell_of_heap h1];rfl,by rw [cell_of_heap h1];rfl,h2,h4,fun a ha=>⟨(hok.sets a ha).1,canon_len (hok.sets a ha).1 (hok.sets a ha).2⟩⟩
theorem FileAt.dcls {w:World} {fb:Nat} {F:Fl} (h:FileAt w fb F):ClsF w fb F.cls:=by
 obtain⟨i,v,n,h0,h1,h2,-,-,h3,-⟩:=h.mem
 exact⟨⟨i.mb,n,by rw [cell_of_heap h1];rfl,h2⟩,⟨v.cls,by rw [cell_of_heap h1];rfl,h3⟩⟩
theorem so_dFlags (fb:Nat) (F:Fl) (s:ByteArray) (m0:Int) (w:World) (h:FileAt w fb F) (hok:FlOk F) (hs:s.size≤1048576) (hm:w.cell? ⟨0,0,none⟩=some (.int .i64 m0)) :
  Calls Tryz.prog 34 #[.pointer (some ⟨fb,0,none⟩),.string s] w fun e w'=>∃v,e=.returned (.tuple #[v,.int .i64 (flagsR F s).2])∧FN w.heap.size w' v (flagsR F s).1∧Below w.heap.size w w':=by
 obtain⟨av,us,hf⟩:=h.dfile hok
 have:=so_fileFlags fb F.kind m0 av us F.als s w hf hok.als (by omega) hm
 rw [←flagsR_eq] at this
 exact this
theorem definedB_is (F:Fl) (x:Int):definedB F x=((F.cls.find? (fun c=>c.flag==x)).isSome||[F.s0,F.s1,F.s2,F.s3,F.s4].contains x):=by
 unfold definedB findC
 simp only [List.contains_cons,List.contains_nil,Bool.or_false,Bool.beq_comm]
 have hc:∀a:Int,(x==a)=(a==x):=fun a=>Bool.beq_comm ..
 simp only [hc]
 cases (F.cls.find? (fun c=>c.flag==x)).isSome<;>simp [Bool.or_assoc]
theorem so_dentry (fb:Nat) (F:Fl) (l:Int) (fv:Value) (row:List ByteArray) (m0:Int) (w:World) (hf:FileAt w fb F) (hok:FlOk F) (hr:Rd w 1 fv row.length (strV row)) (hs:∀j,(fieldAt row j).size≤65536) (hn:row.length≤9223372036854775807)
  (hm:w.cell? ⟨0,0,none⟩=some (.int .i64 m0)) :
  Calls Tryz.prog 50 #[.pointer (some ⟨fb,0,none⟩),.agg #[.int .u16 F.s0,.int .u16 F.s1,.int .u16 F.s2,.int .u16 F.s3,.int .u16 F.s4],.agg #[.int .i64 l,fv]] w (EntP (entR F row) w):=by
 obtain⟨-,A,cp,rfl,hcap,hcells⟩:=hr
 have HE:=hid (EW.start w F l (.slice A row.length cp))
 obtain⟨wA,hwA⟩:∃W,(((w.alloc (.cells #[.int .u16 F.s0,.int .u16 F.s1,.int .u16 F.s2,.int .u16 F.s3,.int .u16 F.s4] 77)).alloc (.cells #[.int .i64 l,.slice A row.length cp] 133)).alloc (.cells #[.string ⟨#[]⟩,.slice none 0 0] 35))=W:=⟨_,rfl⟩
 rw [hwA] at HE
 have HFl:Hid (∀W s,Below w.heap.size w W→s.size≤1048576→Calls Tryz.prog 34 #[.pointer (some ⟨fb,0,none⟩),.string s] W fun e w'=>∃v,e=.returned (.tuple #[v,.int .i64 (flagsR F s).2])∧FN W.heap.size w' v (flagsR F s).1∧Below W.heap.size W w'):=hid (fun W s hW h=>so_dFlags fb F s m0 W (hf.keep hW) hok h ((hW.cell (block_lt_of_cell? _ _ hm)).trans hm))
 have HCl:Hid (∀W x,Below w.heap.size w W→0≤x∧x≤65535→Calls Tryz.prog 38 #[.pointer (some ⟨fb,0,none⟩),.int .u16 x] W fun e w'=>e=.returned (clsP (F.cls.find? (fun c=>c.flag==x)))∧Below W.heap.size W w'):=hid (fun W x hW hx=>so_Class fb F.cls x W (hf.dcls.later hW) hx hok.cls)
 have HOk:=hid hok
 have e1:=HE.out.f1
 have q0:=HE.out.r0
 have q1:=HE.out.r1
 have y0:=HE.out.z 0
 have y1:=HE.out.z 1
 by_cases h1:row.length=1
 ·obtain⟨g,o,rfl,hc⟩:=hcells.resolve_left (by omega)
  have hx:(strV row)[0]?=some (.string (fieldAt row 0)):=by
   match row,h1 with
   | [f],_=>rfl
  have c1:=hc 0 _ hx
  rw [Nat.add_zero] at c1
  have d1:=(HE.out.base.cell (block_lt_of_cell? _ _ c1)).trans c1
  have hfs:=hs 0
  have hx2:entR F row=match wordR (fieldAt row 0).data.toList with | (w,rest,cut,e)=>if e≠0 then .error e else enWord F w rest cut:=by rw [entR,if_neg (by omega)]
  have HWd:Hid (∀W,Calls Tryz.prog 84 #[.string (fieldAt row 0)] W fun e w'=>e=.returned (wordV (wordR (fieldAt row 0).data.toList))∧Below W.heap.size W w'):=hid (fun W=>so_wread (fieldAt row 0) W (by omega))
  have hwl:=wordR_len (fieldAt row 0).data.toList
  obtain⟨⟨wd,rest,cut,ec⟩,hwr⟩:∃r,wordR (fieldAt row 0).data.toList=r:=⟨_,rfl⟩
  rw [hwr] at HWd hx2 hwl
  unfold wordV at HWd
  dsimp only at HWd hx2 hwl
  have hl1:wd.length≤65536∧rest.length≤65536:=by have e:(fieldAt row 0).data.toList.length=(fieldAt row 0).size:=(by simp);omega
  obtain⟨hl1,hl2⟩:=hl1
  obtain⟨R,hR⟩:∃R,entR F row=R:=⟨_,rfl⟩
  rw [hR] at hx2 ⊢
  rw [h1] at e1 hcap
  generalize fieldAt row 0=f at *
  clear hcells hc hx c1 hs hn h1 hwl hwr hR hfs hm hf hok
  by_cases hec:ec=0
  ·subst hec
   rw [if_neg (by simp)] at hx2
   have hsz:(mkS wd).size=wd.length:=mkS_size wd
   have hrs:(mkS rest).size≤1048576:=by rw [mkS_size];omega
   have HE0:Hid (wd=[]→R=.error 21):=hid (fun h=>by rw [hx2,enWord,if_pos (.inl h)])
   have HEf:Hid (fitAll (mkS wd)=false→R=.error 21):=hid (fun h=>by rw [hx2,enWord,if_pos (.inr h)])
   have HE6:Hid (wd≠[]→fitAll (mkS wd)=true→64 < wd.length→R=.error 22):=hid (fun h h2 h3=>by rw [hx2,enWord,if_neg (by rw [h2];simp [h]),if_pos h3])
   have HEc:Hid (wd≠[]→fitAll (mkS wd)=true→¬64 < wd.length→cut=false→R=.ok (mkS wd,[])):=hid (fun h h2 h3 h4=>by rw [hx2,enWord,if_neg (by rw [h2];simp [h]),if_neg h3,if_pos h4])
   have HEg:Hid (wd≠[]→fitAll (mkS wd)=true→¬64 < wd.length→cut=true→R=if (flagsR F (mkS rest)).2≠0 then .error (flagsR F (mkS rest)).2 else if (flagsR F (mkS rest)).1.all (definedB F)=true then .ok (mkS wd,(flagsR F (mkS rest)).1) else .error 120):=hid (fun h h2 h3 h4=>by rw [hx2,enWord,if_neg (by rw [h2];simp [h]),if_neg h3,if_neg (by rw [h4];simp),enFlags])
   have HWn:Hid (wd=[]→mkS wd=⟨#[]⟩):=hid (fun h=>by rw [h];rfl)
   have hbd1:=flagsR_bd F (mkS rest) (fun a ha=>(HOk.out.sets a ha).2)
   have hbd2:=canon_len (flagsR_canon F (mkS rest) (fun a ha=>(HOk.out.sets a ha).1)) hbd1
   have HFg:Hid (∀W,Below w.heap.size w W→Calls Tryz.prog 34 #[.pointer (some ⟨fb,0,none⟩),.string (mkS rest)] W fun e w'=>∃v,e=.returned (.tuple #[v,.int .i64 (flagsR F (mkS rest)).2])∧FN W.heap.size w' v (flagsR F (mkS rest)).1∧Below W.heap.size W w'):=hid (fun W hW=>HFl.out W _ hW hrs)
   obtain⟨⟨zs,fc⟩,hz⟩:∃r,flagsR F (mkS rest)=r:=⟨_,rfl⟩
   rw [hz] at HEg HFg hbd1 hbd2
   dsimp only at HEg HFg hbd1 hbd2
   generalize mkS rest=rs at *
   generalize mkS wd=s at *
   have HBd:=hid hbd1
   clear hx2 hrs hz HFl hl2 hbd1 HOk
   go_enter Tryz.func50,Tryz.ntmps50
   go_wp2_with (go_at_call 84;refine (HWd.out _).mono ?_;rintro e w2 ⟨rfl,hb⟩;have HE2:=hid (HE.out.below hb);clear hb q0 q1 y0 y1)
   have q0:=HE2.out.r0
   have q1:=HE2.out.r1
   have y0:=HE2.out.z 0
   have y1:=HE2.out.z 1
   go_loop [12,39] (fun _ i=>∃k:Nat,k≤s.size∧i=.int .i64 k∧Hid ((s.data.toList.take k).all fitB=true)) (fun _ i=>s.size - (intOf i).toNat)
   case atStart=>exact⟨0,Nat.zero_le _,rfl,hid rfl⟩
   case round =>
   obtain⟨k,hk,rfl,HT⟩:=hrel
   by_cases hlt:k < s.size
   ·cases hfb:fitB s[k]
    ·have HN:=hid (HEf.out (all_no s k hlt hfb))
     have HF:=hid hfb
     clear hfb
     go_wp2_with (go_at_call 85;refine (Valid_one s k hlt _).mono ?_;rw [HF.out];rintro e w' ⟨rfl,rfl⟩)
     refine bodyPost_ret (v:=.tuple #[.agg #[.string ⟨#[]⟩,.slice none 0 0],.int .i64 21]) (by simp [results,Tryz.results50,go_sem,q0,q1];try rfl) rfl ?_
     rw [HN.out]
     exact⟨HE2.out.done _ _,rfl⟩
    have HN:=hid (all_take s k hlt hfb HT.out)
    have HF:=hid hfb
    clear hfb
    go_wp2_with (go_at_call 85;refine (Valid_one s k hlt _).mono ?_;rw [HF.out];rintro e w' ⟨rfl,rfl⟩)
    go_roundw
    case rel=>exact⟨k+1,by omega,by go_num,HN⟩
    case measure=>simp [intOf];omega
   obtain rfl:k=s.size:=by omega
   have HFa:=hid (all_full s HT.out)
   by_cases h0:wd=[]
   ·have HN:=hid (HE0.out h0)
    have hse:=HWn.out h0
    subst hse
    clear h0
    go_wp2_with fail
    refine bodyPost_ret (v:=.tuple #[.agg #[.string ⟨#[]⟩,.slice none 0 0],.int .i64 21]) (by simp [results,Tryz.results50,go_sem,q0,q1];try rfl) rfl ?_
    rw [HN.out]
    exact⟨HE2.out.done _ _,rfl⟩
   have hne:=notEmpty s (by have:=List.length_pos_iff.2 h0;omega)
   have H0:=hid h0
   by_cases h64:64 < s.size
   ·have h64i:(64:Int) < (s.size:Int):=by omega
    have HN:=hid (HE6.out h0 HFa.out (by omega))
    clear h0
    go_wp2_with fail
    refine bodyPost_ret (v:=.tuple #[.agg #[.string ⟨#[]⟩,.slice none 0 0],.int .i64 22]) (by simp [results,Tryz.results50,go_sem,q0,q1];try rfl) rfl ?_
    rw [HN.out]
    exact⟨HE2.out.done _ _,rfl⟩
   have h64i:¬(64:Int) < (s.size:Int):=by omega
   cases cut
   ·have HN:=hid (HEc.out h0 HFa.out (by omega) rfl)
    clear h0
    go_wp2_with fail
    refine bodyPost_ret (v:=.tuple #[.agg #[.string s,.slice none 0 0],.int .i64 0]) (by simp [results,Tryz.results50,go_sem,q0,q1];try rfl) rfl ?_
    rw [HN.out]
    exact⟨HE2.out.done _ _,_,rfl,FN.nil _ _ _ _⟩
   have HG:=hid (HEg.out h0 HFa.out (by omega) rfl)
   clear h0 q0 q1 y0 y1
   go_wp2_with fail
   refine (HFg.out w2 HE2.out.base).mono ?_
   rintro e w3 ⟨v3,rfl,hfn,hb3⟩
   have HE3:=hid (HE2.out.below hb3)
   have HFN:=hid hfn
   obtain⟨p3,c3,rfl⟩:∃p c,v3=.slice p zs.length c:=by obtain⟨p,c,hv,-⟩:=hfn;exact⟨p,c,hv⟩
   clear hfn hb3
   have q0:=HE3.out.r0
   have q1:=HE3.out.r1
   have y0:=HE3.out.z 0
   have y1:=HE3.out.z 1
   by_cases hfc:fc=0
   ·subst hfc
    rw [if_neg (by simp)] at HG
    clear q0 q1 y0 y1
    go_wp2_with fail
    go_loopw [15,17,77] (fun _ _ i wr=>∃k:Nat,k≤zs.length∧i=.int .i64 k∧Hid (Below w3.heap.size w3 wr)∧Hid (∀j (hj:j < zs.length),j < k→definedB F zs[j]=true)) (fun _ _ i _=>zs.length - (intOf i).toNat)
    case atStart=>exact⟨0,Nat.zero_le _,rfl,hid (Below.refl _ _),hid (fun j _ hj=>absurd hj (Nat.not_lt_zero _))⟩
    case round =>
    obtain⟨k2,hk2,rfl,HBk,HD⟩:=hrel
    have HEk:=hid (HE3.out.below HBk.out)
    by_cases hlz:k2 < zs.length
    ·obtain⟨p',c',hv,hcp,hrow⟩:=HFN.out.fs
     cases hv
     obtain⟨g2,o2,rfl,hc2⟩:=hrow.resolve_left (by omega)
     have c2:=hc2 k2 hlz
     have e2:zs.getD k2 0=zs[k2]:=by simp [List.getD,hlz]
     rw [e2] at c2
     have d2:=(HBk.out.cell (block_lt_of_cell? _ _ c2)).trans c2
     obtain⟨b0,b1⟩:=HBd.out zs[k2] (List.getElem_mem hlz)
     have HDe:=hid (definedB_is F zs[k2])
     have HCk:=hid (HCl.out wr zs[k2] HEk.out.base ⟨b0,b1⟩)
     have HNx:Hid (definedB F zs[k2]=true→∀j (hj:j < zs.length),j < k2+1→definedB F zs[j]=true):=hid (fun he j hj hjk=>by
      by_cases e:j=k2
      ·subst e;exact he
      exact HD.out j hj (by omega))
     have HBad:Hid (definedB F zs[k2]=false→R=.error 120):=hid (fun he=>by
      rw [HG.out,if_neg]
      intro ha
      rw [List.all_eq_true.1 ha _ (List.getElem_mem hlz)] at he
      cases he)
     generalize zs[k2]=x at *
     unfold clsP clsV at HCk
     generalize F.cls.find? (fun c=>c.flag==x)=oc at *
     clear c2 e2 hc2 hrow hcp
     cases oc with
     | some c =>
      dsimp only [Option.getD_some,Option.isSome_some,Bool.true_or] at HCk HDe
      have HNy:=hid (HNx.out HDe.out)
      go_wp2_with (go_at_call 38;refine HCk.out.mono ?_;rintro e w5 ⟨rfl,hb5⟩;have HB5:=hid (HBk.out.trans (hb5.mono HBk.out.size));clear hb5)
      go_roundw
      case rel=>exact⟨k2+1,by omega,by go_num,hid (HB5.out.alloc HB5.out.size _),HNy⟩
      case measure=>simp [intOf];omega
     | none =>
      dsimp only [Option.getD_none,Option.isSome_none,Bool.false_or,noCl] at HCk HDe
      have HCt:Hid (∀W,Below wr.heap.size wr W→Calls Tryz.prog 86 #[.slice (some ⟨w.heap.size,0,none⟩) 5 5,.int .u16 x] W fun e w'=>e=.returned (.bool ([F.s0,F.s1,F.s2,F.s3,F.s4].contains x))∧w'=W):=hid (fun W hW=>so_ContainsL _ _ x W (HEk.out.below hW).fs (by simp))
      generalize [F.s0,F.s1,F.s2,F.s3,F.s4].contains x=ct at *
      go_wp2_with fail
      refine HCk.out.mono ?_
      rintro e w5 ⟨rfl,hb5⟩
      have HL5:=hid (hb5.alloc hb5.size (.cells #[.int .u16 0,.int .i64 0,.bool false,.int .i64 0,.int .i64 0] 99))
      have HC5:=hid (HCt.out _ HL5.out)
      have HE5:=hid (HEk.out.below HL5.out)
      clear hb5
      cases ct
      ·have HN:=hid (HBad.out HDe.out)
       have q0:=HE5.out.r0
       have q1:=HE5.out.r1
       have y0:=HE5.out.z 0
       have y1:=HE5.out.z 1
       go_wp2_with (go_at_call 86;refine HC5.out.mono ?_;rintro e w6 ⟨rfl,rfl⟩)
       refine bodyPost_ret (v:=.tuple #[.agg #[.string ⟨#[]⟩,.slice none 0 0],.int .i64 120]) (by simp [results,Tryz.results50,go_sem,q0,q1];try rfl) rfl ?_
       rw [HN.out]
       exact⟨HE5.out.done _ _,rfl⟩
      have HNy:=hid (HNx.out HDe.out)
      go_wp2_with (go_at_call 86;refine HC5.out.mono ?_;rintro e w6 ⟨rfl,rfl⟩)
      go_roundw
      case rel=>exact⟨k2+1,by omega,by go_num,hid (HBk.out.trans (HL5.out.mono HBk.out.size)),HNy⟩
      case measure=>simp [intOf];omega
    obtain rfl:k2=zs.length:=by omega
    have HN:Hid (R=.ok (s,zs)):=hid (by
     rw [HG.out,if_pos]
     rw [List.all_eq_true]
     intro x hx
     obtain⟨j,hj,rfl⟩:=List.mem_iff_getElem.1 hx
     exact HD.out j hj hj)
    have q0:=HEk.out.r0
    have q1:=HEk.out.r1
    have y0:=HEk.out.z 0
    have y1:=HEk.out.z 1
    have HFk:Hid (∀u v,FN w.heap.size ((wr.setCell ⟨w.heap.size+2,0,none⟩ u).setCell ⟨w.heap.size+2,1,none⟩ v) (.slice p3 zs.length c3) zs):=hid (fun u v=>(HFN.out.kept (X:=[w.heap.size+2]) (((Kept.of_below HBk.out).set _ _ _ (.inl (by simp))).set _ _ _ (.inl (by simp))) (by intro x hx;have:=HE2.out.size;simp at hx;omega)).mono (by have:=HE2.out.size;omega))
    go_wp2_with fail
    refine bodyPost_ret (v:=.tuple #[.agg #[.string s,.slice p3 zs.length c3],.int .i64 0]) (by simp [results,Tryz.results50,go_sem,q0,q1];try rfl) rfl ?_
    rw [HN.out]
    exact⟨HEk.out.done _ _,_,rfl,HFk.out _ _⟩
   have hf1:(fc != 0)=true:=by rw [bne_iff_ne];exact hfc
   rw [if_pos hfc] at HG
   go_wp2_with fail
   refine bodyPost_ret (v:=.tuple #[.agg #[.string ⟨#[]⟩,.slice none 0 0],.int .i64 fc]) (by simp [results,Tryz.results50,go_sem,q0,q1];try rfl) rfl ?_
   rw [HG.out]
   exact⟨HE3.out.done _ _,rfl⟩
  have hec1:(ec != 0)=true:=by rw [bne_iff_ne];exact hec
  rw [if_pos hec] at hx2
  subst hx2
  go_enter Tryz.func50,Tryz.ntmps50
  go_wp2_with (go_at_call 84;refine (HWd.out _).mono ?_;rintro e w2 ⟨rfl,hb⟩;have HE2:=hid (HE.out.below hb);clear hb q0 q1 y0 y1;have q0:=HE2.out.r0;have q1:=HE2.out.r1;have y0:=HE2.out.z 0;have y1:=HE2.out.z 1)
  refine bodyPost_ret (v:=.tuple #[.agg #[.string ⟨#[]⟩,.slice none 0 0],.int .i64 ec]) (by simp [results,Tryz.results50,go_sem,q0,q1];try rfl) rfl ?_
  exact⟨HE2.out.done _ _,rfl⟩
 have h1':((row.length:Int) != 1)=true:=by rw [bne_iff_ne];omega
 have HX:Hid (entR F row=.error 111):=hid (by rw [entR,if_pos h1])
 rw [HX.out]
 clear hcells hs h1 HX hm hf hok
 go_enter Tryz.func50,Tryz.ntmps50
 go_wp2_with fail
 refine bodyPost_ret (v:=.tuple #[.agg #[.string ⟨#[]⟩,.slice none 0 0],.int .i64 111]) (by simp [results,Tryz.results50,go_sem,q0,q1];try rfl) rfl ?_
 exact⟨HE.out.done _ _,rfl⟩
theorem IO.later {w w':World} {L:List Nat} {v:Value} {zs:List Int} (h:IO w L v zs) (hb:Below w.heap.size w w'):IO w' L v zs:=by
 obtain⟨p,c,hv,hc,h2⟩:=h
 refine⟨p,c,hv,hc,h2.imp id ?_⟩
 rintro⟨b,off,hp,hL,h3⟩
 exact⟨b,off,hp,hL,fun j hj=>(hb.cell (block_lt_of_cell? _ _ (h3 j hj))).trans (h3 j hj)⟩
theorem IS.dio {w w':World} {L:List Nat} {v:Value} {zs:List Int} (h:IS w v zs) (hb:Below w.heap.size w w') (hL:∀x∈L,w.heap.size≤x):IO w' L v zs:=by
 obtain⟨p,c,hv,hc,h2⟩:=h
 rcases Nat.eq_zero_or_pos zs.length with h0 | h0
 ·exact⟨p,c,hv,hc,.inl h0⟩
 obtain⟨b,off,hp,h3⟩:=h2.resolve_left (by omega)
 have hlt:=block_lt_of_cell? _ _ (h3 0 h0)
 exact⟨p,c,hv,hc,.inr ⟨b,off,hp,fun hm=>by have:=hL b hm;simp at hlt;omega,fun j hj=>(hb.cell (block_lt_of_cell? _ _ (h3 j hj))).trans (h3 j hj)⟩⟩
theorem QFileAt.dqfl {w w':World} {L:List Nat} {rf:Nat} {F:Fl} (h:QFileAt w rf F) (hb:Below w.heap.size w w') (hL:∀x∈L,w.heap.size≤x):QFl w' L rf F:=by
 have h':=h.keep hb
 obtain⟨v,h1,-,⟨us,h2,h3,h4⟩,-⟩:=h
 have h1':=(hb.block _ (block_lt h1)).trans h1
 exact⟨by rw [cell_of_heap h1'];rfl,v.als,us,by rw [cell_of_heap h1'];rfl,h2.keep hb,h3,fun k u b hu hb'=>(h4 k u b hu hb').dio hb hL⟩
theorem QFileAt.qdef {w:World} {rf:Nat} {F:Fl} (h:QFileAt w rf F):QDef w rf F:=by
 obtain⟨v,h1,-,-,h2,-⟩:=h
 refine⟨fun n hn=>?_,v.cls,by rw [cell_of_heap h1];rfl,h2⟩
 rw [cell_of_heap h1]
 rcases n with _ | _ | _ | _ | _ | n<;>first | rfl | omega
theorem so_qKnown (rf:Nat) (F:Fl) (x:Int) (w:World) (h:QDef w rf F) (hn:F.cls.length≤65536) :
  Calls Tryz.prog 145 #[.pointer (some ⟨rf,0,none⟩),.int .i64 x] w fun e w'=>e=.returned (.bool (definedB F x))∧Below w.heap.size w w':=by
 have HD:=hid h
 obtain⟨R,hR⟩:∃b,definedB F x=b:=⟨_,rfl⟩
 have HR:=hid hR
 rw [hR]
 clear hR h
 go_enter Tryz.func145,Tryz.ntmps145
 go_wp2_with fail
 go_loop [5] (fun i=>∃k:Nat,k≤5∧i=.int .i64 k∧Hid (∀j,j < k→spAt F j≠x)) (fun i=>5 - (intOf i).toNat)
 case atStart=>exact⟨0,Nat.zero_le _,rfl,hid (fun j hj=>absurd hj (Nat.not_lt_zero _))⟩
 case round =>
 obtain⟨k,hk,rfl,HT⟩:=hrel
 by_cases hlt:k < 5
 ·have d:=HD.out.sp k hlt
  obtain⟨z,hz⟩:∃z,spAt F k=z:=⟨_,rfl⟩
  rw [hz] at d
  have hlt2:(k:Int) < 5:=by omega
  by_cases he:z=x
  ·have HRt:Hid (R=true):=hid (by rw [←HR.out,defined_iff];exact .inl ⟨k,hlt,hz.trans he⟩)
   have hb0:(z==x)=true:=by rw [beq_iff_eq];exact he
   clear he hz
   go_wp2_with fail
   go_ret
   exact⟨ret_bool HRt.out.symm,Below.refl _ _⟩
  have HN:Hid (∀j,j < k+1→spAt F j≠x):=hid (fun j hj=>by
   by_cases e:j=k
   ·subst e;rw [hz];exact he
   exact HT.out j (by omega))
  have hb0:(z==x)=false:=by rw [beq_eq_false_iff_ne];exact he
  clear he hz
  go_wp2_with fail
  go_round
  case rel=>exact⟨k+1,by omega,by go_num,HN⟩
  case measure=>simp [intOf];omega
 obtain rfl:k=5:=by omega
 have HF:=hid (so_qFind rf F.cls x w HD.out.cls hn)
 obtain⟨o,ho⟩:∃o,F.cls.find? (fun c=>c.flag==x)=o:=⟨_,rfl⟩
 have HRo:Hid (R=o.isSome):=hid (by
  rw [←HR.out,Bool.eq_iff_iff,defined_iff,findC,ho]
  constructor
  ·rintro (⟨n,hn,h⟩ | h)
   ·exact absurd h (HT.out n hn)
   exact h
  exact .inr)
 rw [ho] at HF
 unfold qclsP qclsV at HF
 obtain⟨d,hd⟩:∃d,o.getD noCl=d:=⟨_,rfl⟩
 obtain⟨is,his⟩:∃b,o.isSome=b:=⟨_,rfl⟩
 rw [hd,his] at HF
 rw [his] at HRo
 clear ho hd his
 go_wp2_with (go_at_call 102;refine HF.out.mono ?_;rintro e w1 ⟨rfl,hb1⟩;have HB1:=hid hb1;clear hb1)
 go_ret
 exact⟨ret_bool HRo.out.symm,HB1.out.alloc HB1.out.size _⟩
def EntQ (L:List Nat) (r:Except Int En) (w:World) (e:Ending) (w':World):Prop:=Below w.heap.size w w'∧match r with
 | .error c=>e=.returned (.tuple #[.agg #[.string ⟨#[]⟩,.slice none 0 0],.int .i64 c])
 | .ok x=>∃v,e=.returned (.tuple #[.agg #[.string x.1,v],.int .i64 0])∧IO w' L v x.2
structure QW (w W:World):Prop where
 base:Below w.heap.size w W
 res:W.heap[w.heap.size]?=some (.cells #[.string ⟨#[]⟩,.slice none 0 0] 54 (0,0))
section
variable {w W W':World}
theorem QW.start (w:World):QW w (w.alloc (.cells #[.string ⟨#[]⟩,.slice none 0 0] 54)):=⟨(Below.refl _ _).alloc (Nat.le_refl _) _,heap_alloc_new w _⟩
theorem QW.below (h:QW w W) (hb:Below W.heap.size W W'):QW w W':=⟨h.base.trans (hb.mono h.base.size),(hb.block _ (block_lt h.res)).trans h.res⟩
theorem QW.r0 (h:QW w W):W.cell? ⟨w.heap.size,0,none⟩=some (.string ⟨#[]⟩):=cell_of_heap h.res 0
theorem QW.r1 (h:QW w W):W.cell? ⟨w.heap.size,1,none⟩=some (.slice none 0 0):=cell_of_heap h.res 1
theorem QW.z (h:QW w W) (j:Nat):W.frozen? ⟨w.heap.size,j,none⟩=false:=frozen_of_heap h.res j
theorem QW.done (h:QW w W) (u v:Value):Below w.heap.size w ((W.setCell ⟨w.heap.size,0,none⟩ u).setCell ⟨w.heap.size,1,none⟩ v):=(h.base.setCell (Nat.le_refl _) _).setCell (Nat.le_refl _) _
theorem QW.isd (h:QW w W) {L:List Nat} {a:Value} {zs:List Int} (hi:IO W L a zs) (u v:Value):IO ((W.setCell ⟨w.heap.size,0,none⟩ u).setCell ⟨w.heap.size,1,none⟩ v) L a zs:=by
 obtain⟨p,c,hv,hc,h2⟩:=hi
 refine⟨p,c,hv,hc,h2.imp id ?_⟩
 rintro⟨b,off,hp,hL,h3⟩
 refine⟨b,off,hp,hL,fun j hj=>?_⟩
 have h4:=h3 j hj
 have hne:b≠w.heap.size:=fun e=>by
  rw [e,cell_of_heap h.res] at h4
  rcases hx:off+j with _ | _ | m
  ·rw [hx] at h4;simp at h4
  ·rw [hx] at h4;simp at h4
  rw [hx] at h4;simp at h4
 have hk:Kept [w.heap.size] W ((W.setCell ⟨w.heap.size,0,none⟩ u).setCell ⟨w.heap.size,1,none⟩ v):=((Kept.refl _ W).set _ _ _ (.inl (by simp))).set _ _ _ (.inl (by simp))
 exact (World.cell?_of_block (hk.block b (block_lt_of_cell? _ _ h4) (by simpa using hne))).trans h4
end
theorem so_qentry (L:List Nat) (w0:World) (rf:Nat) (F:Fl) (fv:Value) (row:List ByteArray) (w:World) (hf:QFileAt w0 rf F) (hb0:Below w0.heap.size w0 w) (hL:∀x∈L,w0.heap.size≤x∧x < w.heap.size) (hok:FlOk F) (hr:Rd w 1 fv row.length (strV row)) (hs:∀j,(fieldAt row j).size≤65536) (hn:row.length≤9223372036854775807) :
  Calls Tryz.prog 104 #[.pointer (some ⟨rf,0,none⟩),fv] w (EntQ L (entR F row) w):=by
 obtain⟨-,A,cp,rfl,hcap,hcells⟩:=hr
 have HE:=hid (QW.start w)
 obtain⟨wA,hwA⟩:∃W,w.alloc (.cells #[.string ⟨#[]⟩,.slice none 0 0] 54)=W:=⟨_,rfl⟩
 rw [hwA] at HE
 have HFl:Hid (∀W s,Below w.heap.size w W→s.size≤4194304→Calls Tryz.prog 144 #[.pointer (some ⟨rf,0,none⟩),.string s] W fun e w'=>∃v,e=.returned (.tuple #[v,.int .i64 (flagsR F s).2])∧IO w' L v (flagsR F s).1∧Below W.heap.size W w'):=hid (fun W s hW h=>so_qFlags L rf F s W (hf.dqfl (hb0.trans (hW.mono hb0.size)) (fun x hx=>(hL x hx).1)) (fun x hx=>Nat.lt_of_lt_of_le (hL x hx).2 hW.size) hok.als h)
 have HKn:Hid (∀W x,Below w.heap.size w W→Calls Tryz.prog 145 #[.pointer (some ⟨rf,0,none⟩),.int .i64 x] W fun e w'=>e=.returned (.bool (definedB F x))∧Below W.heap.size W w'):=hid (fun W x hW=>so_qKnown rf F x W (hf.keep (hb0.trans (hW.mono hb0.size))).qdef hok.cls)
 have HOk:=hid hok
 have q0:=HE.out.r0
 have q1:=HE.out.r1
 have y0:=HE.out.z 0
 have y1:=HE.out.z 1
 by_cases h1:row.length=1
 ·obtain⟨g,o,rfl,hc⟩:=hcells.resolve_left (by omega)
  have hx:(strV row)[0]?=some (.string (fieldAt row 0)):=by
   match row,h1 with
   | [f],_=>rfl
  have c1:=hc 0 _ hx
  rw [Nat.add_zero] at c1
  have d1:=(HE.out.base.cell (block_lt_of_cell? _ _ c1)).trans c1
  have hfs:=hs 0
  have hx2:entR F row=match wordR (fieldAt row 0).data.toList with | (w,rest,cut,e)=>if e≠0 then .error e else enWord F w rest cut:=by rw [entR,if_neg (by omega)]
  have HWd:Hid (∀W,Calls Tryz.prog 143 #[.string (fieldAt row 0)] W fun e w'=>e=.returned (wordV (wordR (fieldAt row 0).data.toList))∧Below W.heap.size W w'):=hid (fun W=>so_rwread (fieldAt row 0) W (by omega))
  have hwl:=wordR_len (fieldAt row 0).data.toList
  obtain⟨⟨wd,rest,cut,ec⟩,hwr⟩:∃r,wordR (fieldAt row 0).data.toList=r:=⟨_,rfl⟩
  rw [hwr] at HWd hx2 hwl
  unfold wordV at HWd
  dsimp only at HWd hx2 hwl
  have hl1:wd.length≤65536∧rest.length≤65536:=by have e:(fieldAt row 0).data.toList.length=(fieldAt row 0).size:=(by simp);omega
  obtain⟨hl1,hl2⟩:=hl1
  obtain⟨R,hR⟩:∃R,entR F row=R:=⟨_,rfl⟩
  rw [hR] at hx2 ⊢
  rw [h1] at hcap ⊢
  generalize fieldAt row 0=f at *
  clear hcells hc hx c1 hs hn h1 hwl hwr hR hfs hf hok hb0 hL
  by_cases hec:ec=0
  ·subst hec
   rw [if_neg (by simp)] at hx2
   have hsz:(mkS wd).size=wd.length:=mkS_size wd
   have hrs:(mkS rest).size≤4194304:=by rw [mkS_size];omega
   have HE0:Hid (wd=[]→R=.error 21):=hid (fun h=>by rw [hx2,enWord,if_pos (.inl h)])
   have HEf:Hid (fitAll (mkS wd)=false→R=.error 21):=hid (fun h=>by rw [hx2,enWord,if_pos (.inr h)])
   have HE6:Hid (wd≠[]→fitAll (mkS wd)=true→64 < wd.length→R=.error 22):=hid (fun h h2 h3=>by rw [hx2,enWord,if_neg (by rw [h2];simp [h]),if_pos h3])
   have HEc:Hid (wd≠[]→fitAll (mkS wd)=true→¬64 < wd.length→cut=false→R=.ok (mkS wd,[])):=hid (fun h h2 h3 h4=>by rw [hx2,enWord,if_neg (by rw [h2];simp [h]),if_neg h3,if_pos h4])
   have HEg:Hid (wd≠[]→fitAll (mkS wd)=true→¬64 < wd.length→cut=true→R=if (flagsR F (mkS rest)).2≠0 then .error (flagsR F (mkS rest)).2 else if (flagsR F (mkS rest)).1.all (definedB F)=true then .ok (mkS wd,(flagsR F (mkS rest)).1) else .error 120):=hid (fun h h2 h3 h4=>by rw [hx2,enWord,if_neg (by rw [h2];simp [h]),if_neg h3,if_neg (by rw [h4];simp),enFlags])
   have HWn:Hid (wd=[]→mkS wd=⟨#[]⟩):=hid (fun h=>by rw [h];rfl)
   have hbd2:=canon_len (flagsR_canon F (mkS rest) (fun a ha=>(HOk.out.sets a ha).1)) (flagsR_bd F (mkS rest) (fun a ha=>(HOk.out.sets a ha).2))
   have HFg:Hid (∀W,Below w.heap.size w W→Calls Tryz.prog 144 #[.pointer (some ⟨rf,0,none⟩),.string (mkS rest)] W fun e w'=>∃v,e=.returned (.tuple #[v,.int .i64 (flagsR F (mkS rest)).2])∧IO w' L v (flagsR F (mkS rest)).1∧Below W.heap.size W w'):=hid (fun W hW=>HFl.out W _ hW hrs)
   obtain⟨⟨zs,fc⟩,hz⟩:∃r,flagsR F (mkS rest)=r:=⟨_,rfl⟩
   rw [hz] at HEg HFg hbd2
   dsimp only at HEg HFg hbd2
   generalize mkS rest=rs at *
   have hby:∀W,Calls Tryz.prog 139 #[.string (mkS wd)] W fun e w'=>e=.returned (.bool (fitAll (mkS wd)))∧W=w':=fun W=>Bytes02_any (mkS wd) W (by omega)
   generalize mkS wd=s at *
   obtain⟨ft,hft⟩:∃b,fitAll s=b:=⟨_,rfl⟩
   rw [hft] at hby HEf HE6 HEc HEg
   have HBy:=hid hby
   have HWl:Hid (s.size=wd.length):=hid hsz
   clear hx2 hrs hz HFl hl2 HOk hby hft
   by_cases h0:wd=[]
   ·have HN:=hid (HE0.out h0)
    have hse:=HWn.out h0
    subst hse
    clear h0 hsz
    go_enter Tryz.func104,Tryz.ntmps104
    go_wp2_with (first
     | (go_at_call 143;refine (HWd.out _).mono ?_;rintro e w2 ⟨rfl,hb⟩;have HE2:=hid (HE.out.below hb);clear hb q0 q1 y0 y1;have q0:=HE2.out.r0;have q1:=HE2.out.r1;have y0:=HE2.out.z 0;have y1:=HE2.out.z 1)
     | (go_at_call 139;refine (HBy.out _).mono ?_;rintro e w3 ⟨rfl,rfl⟩))
    refine bodyPost_ret (v:=.tuple #[.agg #[.string ⟨#[]⟩,.slice none 0 0],.int .i64 21]) (by simp [results,Tryz.results104,go_sem,q0,q1];try rfl) rfl ?_
    rw [HN.out]
    exact⟨HE2.out.done _ _,rfl⟩
   have hne:=notEmpty s (by have:=List.length_pos_iff.2 h0;omega)
   have hne0:((s.size:Int)==0)=false:=by rw [beq_eq_false_iff_ne];have:=List.length_pos_iff.2 h0;omega
   have H0:=hid h0
   clear h0 hsz
   cases ft
   ·have HN:=hid (HEf.out rfl)
    go_enter Tryz.func104,Tryz.ntmps104
    go_wp2_with (first
     | (go_at_call 143;refine (HWd.out _).mono ?_;rintro e w2 ⟨rfl,hb⟩;have HE2:=hid (HE.out.below hb);clear hb q0 q1 y0 y1;have q0:=HE2.out.r0;have q1:=HE2.out.r1;have y0:=HE2.out.z 0;have y1:=HE2.out.z 1)
     | (go_at_call 139;refine (HBy.out _).mono ?_;rintro e w3 ⟨rfl,rfl⟩))
    refine bodyPost_ret (v:=.tuple #[.agg #[.string ⟨#[]⟩,.slice none 0 0],.int .i64 21]) (by simp [results,Tryz.results104,go_sem,q0,q1];try rfl) rfl ?_
    rw [HN.out]
    exact⟨HE2.out.done _ _,rfl⟩
   by_cases h64:64 < s.size
   ·have h64i:(64:Int) < (s.size:Int):=by omega
    have HN:=hid (HE6.out H0.out rfl (by have:=HWl.out;omega))
    go_enter Tryz.func104,Tryz.ntmps104
    go_wp2_with (first
     | (go_at_call 143;refine (HWd.out _).mono ?_;rintro e w2 ⟨rfl,hb⟩;have HE2:=hid (HE.out.below hb);clear hb q0 q1 y0 y1;have q0:=HE2.out.r0;have q1:=HE2.out.r1;have y0:=HE2.out.z 0;have y1:=HE2.out.z 1)
     | (go_at_call 139;refine (HBy.out _).mono ?_;rintro e w3 ⟨rfl,rfl⟩))
    refine bodyPost_ret (v:=.tuple #[.agg #[.string ⟨#[]⟩,.slice none 0 0],.int .i64 22]) (by simp [results,Tryz.results104,go_sem,q0,q1];try rfl) rfl ?_
    rw [HN.out]
    exact⟨HE2.out.done _ _,rfl⟩
   have h64i:¬(64:Int) < (s.size:Int):=by omega
   cases cut
   ·have HN:=hid (HEc.out H0.out rfl (by have:=HWl.out;omega) rfl)
    go_enter Tryz.func104,Tryz.ntmps104
    go_wp2_with (first
     | (go_at_call 143;refine (HWd.out _).mono ?_;rintro e w2 ⟨rfl,hb⟩;have HE2:=hid (HE.out.below hb);clear hb q0 q1 y0 y1;have q0:=HE2.out.r0;have q1:=HE2.out.r1;have y0:=HE2.out.z 0;have y1:=HE2.out.z 1)
     | (go_at_call 139;refine (HBy.out _).mono ?_;rintro e w3 ⟨rfl,rfl⟩))
    refine bodyPost_ret (v:=.tuple #[.agg #[.string s,.slice none 0 0],.int .i64 0]) (by simp [results,Tryz.results104,go_sem,q0,q1];try rfl) rfl ?_
    rw [HN.out]
    exact⟨HE2.out.done _ _,_,rfl,none,0,rfl,Nat.le_refl _,.inl rfl⟩
   have HG:=hid (HEg.out H0.out rfl (by have:=HWl.out;omega) rfl)
   go_enter Tryz.func104,Tryz.ntmps104
   go_wp2_with (first
    | (go_at_call 143;refine (HWd.out _).mono ?_;rintro e w2 ⟨rfl,hb⟩;have HE2:=hid (HE.out.below hb);clear hb q0 q1 y0 y1)
    | (go_at_call 139;refine (HBy.out _).mono ?_;rintro e w3 ⟨rfl,rfl⟩))
   refine (HFg.out w2 HE2.out.base).mono ?_
   rintro e w3 ⟨v3,rfl,hfn,hb3⟩
   have HE3:=hid (HE2.out.below hb3)
   have HFN:=hid hfn
   obtain⟨p3,c3,rfl⟩:∃p c,v3=.slice p zs.length c:=by obtain⟨p,c,hv,-⟩:=hfn;exact⟨p,c,hv⟩
   clear hfn hb3
   have q0:=HE3.out.r0
   have q1:=HE3.out.r1
   have y0:=HE3.out.z 0
   have y1:=HE3.out.z 1
   by_cases hfc:fc=0
   ·subst hfc
    rw [if_neg (by simp)] at HG
    clear q0 q1 y0 y1
    go_wp2_with fail
    go_loopw [12,13] (fun i _ wr=>∃k:Nat,k≤zs.length∧i=.int .i64 k∧Hid (Below w3.heap.size w3 wr)∧Hid (∀j (hj:j < zs.length),j < k→definedB F zs[j]=true)) (fun i _ _=>zs.length - (intOf i).toNat)
    case atStart=>exact⟨0,Nat.zero_le _,rfl,hid (Below.refl _ _),hid (fun j _ hj=>absurd hj (Nat.not_lt_zero _))⟩
    case round =>
    obtain⟨k2,hk2,rfl,HBk,HD⟩:=hrel
    have HEk:=hid (HE3.out.below HBk.out)
    by_cases hlz:k2 < zs.length
    ·obtain⟨p',c',hv,hcp,hrow⟩:=HFN.out
     cases hv
     obtain⟨g2,o2,rfl,-,hc2⟩:=hrow.resolve_left (by omega)
     have c2:=hc2 k2 hlz
     have e2:zs.getD k2 0=zs[k2]:=by simp [List.getD,hlz]
     rw [e2] at c2
     have d2:=(HBk.out.cell (block_lt_of_cell? _ _ c2)).trans c2
     have HCk:=hid (HKn.out wr zs[k2] HEk.out.base)
     have HNx:Hid (definedB F zs[k2]=true→∀j (hj:j < zs.length),j < k2+1→definedB F zs[j]=true):=hid (fun he j hj hjk=>by
      by_cases e:j=k2
      ·subst e;exact he
      exact HD.out j hj (by omega))
     have HBad:Hid (definedB F zs[k2]=false→R=.error 120):=hid (fun he=>by
      rw [HG.out,if_neg]
      intro ha
      rw [List.all_eq_true.1 ha _ (List.getElem_mem hlz)] at he
      cases he)
     obtain⟨df,hdf⟩:∃b,definedB F zs[k2]=b:=⟨_,rfl⟩
     rw [hdf] at HCk HNx HBad
     generalize zs[k2]=x at *
     clear c2 e2 hc2 hrow hcp hdf
     cases df
     ·have HN:=hid (HBad.out rfl)
      go_wp2_with (go_at_call 145;refine HCk.out.mono ?_;rintro e w5 ⟨rfl,hb5⟩;have HE5:=hid (HEk.out.below hb5);clear hb5;have q0:=HE5.out.r0;have q1:=HE5.out.r1;have y0:=HE5.out.z 0;have y1:=HE5.out.z 1)
      refine bodyPost_ret (v:=.tuple #[.agg #[.string ⟨#[]⟩,.slice none 0 0],.int .i64 120]) (by simp [results,Tryz.results104,go_sem,q0,q1];try rfl) rfl ?_
      rw [HN.out]
      exact⟨HE5.out.done _ _,rfl⟩
     have HNy:=hid (HNx.out rfl)
     go_wp2_with (go_at_call 145;refine HCk.out.mono ?_;rintro e w5 ⟨rfl,hb5⟩;have HB5:=hid (HBk.out.trans (hb5.mono HBk.out.size));clear hb5)
     go_roundw
     case rel=>exact⟨k2+1,by omega,by go_num,HB5,HNy⟩
     case measure=>simp [intOf];omega
    obtain rfl:k2=zs.length:=by omega
    have HN:Hid (R=.ok (s,zs)):=hid (by
     rw [HG.out,if_pos]
     exact List.all_eq_true.2 (fun x hx=>by
      obtain⟨j,hj,rfl⟩:=List.mem_iff_getElem.1 hx
      exact HD.out j hj hj))
    have HI:=hid (HFN.out.later HBk.out)
    have q0:=HEk.out.r0
    have q1:=HEk.out.r1
    have y0:=HEk.out.z 0
    have y1:=HEk.out.z 1
    go_wp2_with fail
    refine bodyPost_ret (v:=.tuple #[.agg #[.string s,.slice p3 zs.length c3],.int .i64 0]) (by simp [results,Tryz.results104,go_sem,q0,q1];try rfl) rfl ?_
    rw [HN.out]
    exact⟨HEk.out.done _ _,_,rfl,HEk.out.isd HI.out _ _⟩
   have hfc1:(fc != 0)=true:=by rw [bne_iff_ne];exact hfc
   have HN:Hid (R=.error fc):=hid (by rw [HG.out,if_pos hfc])
   go_wp2_with fail
   refine bodyPost_ret (v:=.tuple #[.agg #[.string ⟨#[]⟩,.slice none 0 0],.int .i64 fc]) (by simp [results,Tryz.results104,go_sem,q0,q1];try rfl) rfl ?_
   rw [HN.out]
   exact⟨HE3.out.done _ _,rfl⟩
  have hec1:(ec != 0)=true:=by rw [bne_iff_ne];exact hec
  have HN:Hid (R=.error ec):=hid (by rw [hx2,if_pos hec])
  clear hx2
  go_enter Tryz.func104,Tryz.ntmps104
  go_wp2_with (go_at_call 143;refine (HWd.out _).mono ?_;rintro e w2 ⟨rfl,hb⟩;have HE2:=hid (HE.out.below hb);clear hb q0 q1 y0 y1;have q0:=HE2.out.r0;have q1:=HE2.out.r1;have y0:=HE2.out.z 0;have y1:=HE2.out.z 1)
  refine bodyPost_ret (v:=.tuple #[.agg #[.string ⟨#[]⟩,.slice none 0 0],.int .i64 ec]) (by simp [results,Tryz.results104,go_sem,q0,q1];try rfl) rfl ?_
  rw [HN.out]
  exact⟨HE2.out.done _ _,rfl⟩
 have hN:entR F row=.error 111:=by rw [entR,if_pos h1]
 have hn1:((row.length:Int) != 1)=true:=by rw [bne_iff_ne];omega
 rw [hN]
 clear hcells hN
 go_enter Tryz.func104,Tryz.ntmps104
 go_wp2_with fail
 refine bodyPost_ret (v:=.tuple #[.agg #[.string ⟨#[]⟩,.slice none 0 0],.int .i64 111]) (by simp [results,Tryz.results104,go_sem,q0,q1];try rfl) rfl ?_
 exact⟨HE.out.done _ _,rfl⟩
def slE:Value→Option (DataW Unit×List MemPlace)
 | .slice none 0 0=>some (.agg [],[])
 | .slice (some ⟨g,0,none⟩) n c=>some (.agg [.lit (.int .i64 (g:Nat)),.lit (.int .i64 (n:Nat)),.lit (.int .i64 (c:Nat))],[])
 | _=>none
def slD:Value→DataW Unit
 | .slice (some ⟨g,_,_⟩) n c=>.agg [.lit (.int .i64 (g:Nat)),.lit (.int .i64 (n:Nat)),.lit (.int .i64 (c:Nat))]
 | _=>.agg []
def SlV (v:Value):Prop:=v=.slice none 0 0∨∃g n c,v=.slice (some ⟨g,0,none⟩) n c
theorem slE_mk {v:Value} (h:SlV v):slE v=some (slD v,[]):=by
 rcases h with rfl | ⟨g,n,c,rfl⟩<;>rfl
theorem slE_inv {u v:Value} {ps:List MemPlace} (h:SlV v) (hE:slE u=some (slD v,ps)):u=v:=by
 unfold slE at hE
 split at hE
 ·rcases h with rfl | ⟨g,n,c,rfl⟩
  ·rfl
  simp [slD] at hE
 ·rename_i g' n' c'
  rcases h with rfl | ⟨g,n,c,rfl⟩
  ·simp [slD] at hE
  simp [slD] at hE
  obtain⟨⟨h1,h2,h3⟩,-⟩:=hE
  have e1:g'=g:=by omega
  have e2:n'=n:=by omega
  have e3:c'=c:=by omega
  subst e1 e2 e3
  rfl
 cases hE
theorem SlV.own {w:World} {B e n:Nat} {v:Value} {xs:List Value} (h:w.ownsRow B e 1 v n xs):SlV v:=by
 rcases h.2 with ⟨rfl,-⟩ | ⟨g,cap,cur,rfl,_⟩
 ·exact .inl rfl
 exact .inr ⟨g,n,cap,rfl⟩
def updS {α:Type} (f:ByteArray→α) (s:ByteArray) (v:α):ByteArray→α:=fun u=>if u=s then v else f u
theorem updS_same {α:Type} (f:ByteArray→α) (s:ByteArray) (v:α):updS f s v s=v:=if_pos rfl
theorem updS_other {α:Type} (f:ByteArray→α) {s u:ByteArray} (v:α) (h:u≠s):updS f s v u=f u:=if_neg h
structure FndM (B:Nat) (w:World) (mb n:Nat) (hd:ByteArray→Value) (ix:ByteArray→List Int):Prop where
 map:∃D:DataW Unit,w.ownsMap Tryz.prog 9 slE mb n D∧∀s:ByteArray,D.atKey (litS s) (.agg [])=slD (hd s)
 rows:∀s,w.ownsRow B 3 1 (hd s) (ix s).length ((ix s).map (Value.int .i64))
 apart:∀s s' g,s≠s'→(hd s).ownBlock=some g→(hd s').ownBlock≠some g
 le:∀s,(ix s).length≤n
theorem FndM.made (w:World):FndM (w.heap.size+1) (w.alloc (.map #[] 0)) w.heap.size 0 (fun _=>.slice none 0 0) (fun _=>[]) :=
 ⟨⟨_,World.ownsMap_made _ _ _ _,fun _=>rfl⟩,fun _=>World.ownsRow_nil _ _ _ _,fun _ _ _ _ h=>by simp [Value.ownBlock] at h,fun _=>Nat.zero_le _⟩
theorem FndM.kept {B:Nat} {X:List Nat} {w w':World} {mb n:Nat} {hd:ByteArray→Value} {ix:ByteArray→List Int} (h:FndM B w mb n hd ix) (hk:Kept X w w') (hm:mb∉X) (hr:∀s g,(hd s).ownBlock=some g→g∉X):FndM B w' mb n hd ix:=by
 obtain⟨D,⟨es,clock,hb,F,hs,hD⟩,h2⟩:=h.map
 exact⟨⟨D,⟨es,clock,hk.at hb hm,F,hs,hD⟩,h2⟩,fun s=>hk.own (h.rows s) (fun g hg=>hr s g hg),h.apart,h.le⟩
theorem FndM.look {B:Nat} {w:World} {mb n:Nat} {hd:ByteArray→Value} {ix:ByteArray→List Int} (h:FndM B w mb n hd ix) (s:ByteArray) (hs:s.size≤maxLen) (hz:(zeroValue 39).run Tryz.prog w=.ok (.slice none 0 0) w) :
  (Instr.lookup 134 (.map (some mb)) (.string s) false).run Tryz.prog w=.ok (hd s) w:=by
 obtain⟨D,hD,h2⟩:=h.map
 obtain⟨v,ps,hrun,hv⟩:=hD.lookup law_string Tryz.underlying134 hz (zd:=.agg []) (zp:=[]) rfl (keyOf_string_mk Tryz.underlying9 hs)
 rw [h2 s] at hv
 rw [hrun,slE_inv (SlV.own (h.rows s)) hv]
theorem litS_inj {s u:ByteArray} (h:litS s=litS u):s=u:=by
 injection h with e
 obtain⟨⟨a⟩⟩:=s
 obtain⟨⟨b⟩⟩:=u
 simp at e;rw [e]
theorem litS_ne {s u:ByteArray} (h:s≠u):litS s≠litS u:=fun e=>h (litS_inj e)
theorem FndM.store {B:Nat} {w w1:World} {mb n:Nat} {hd:ByteArray→Value} {ix:ByteArray→List Int} (h:FndM B w mb n hd ix) (s:ByteArray) (x:Int) (v':Value) (hs:s.size≤maxLen) (hn:n < maxLen) (hmB:mb < w.heap.size)
  (hv:w1.ownsRow B 3 1 v' ((ix s).length+1) ((ix s).map (Value.int .i64)++[Value.int .i64 x])) (hg:w.grownBy w1 (hd s).ownBlock) (hl:v'.ownBlock=(hd s).ownBlock∨∃g,v'.ownBlock=some g∧w.heap.size≤g) :
  ∃w2,(Instr.mapUpdate 134 (.map (some mb)) (.string s) v').run Tryz.prog w1=.ok () w2∧FndM B w2 mb (n+1) (updS hd s v') (updS ix s (ix s++[x]))∧w1.grownBy w2 (some mb):=by
 obtain⟨D,hD,h2⟩:=h.map
 have hmap:∀u,(hd u).ownBlock≠some mb:=fun u e=>by
  obtain⟨es,clock,hb,-⟩:=hD
  rcases (h.rows u).2 with ⟨e2,-⟩ | ⟨g,cap,cur,e2,-,hc,-⟩
  ·rw [e2] at e;simp [Value.ownBlock] at e
  rw [e2] at e
  have:g=mb:=by simpa [Value.ownBlock] using e
  subst this
  rw [hb] at hc;cases hc
 have hk1:Kept (match (hd s).ownBlock with | some g=>[g] | none=>[]) w w1:=Kept.grown hg (fun k hk=>by rw [hk];simp)
 have hm1:mb∉(match (hd s).ownBlock with | some g=>[g] | none=>[]):=by
  cases hb:(hd s).ownBlock with
  | none=>simp
  | some g=>simp only [List.mem_singleton];rintro rfl;exact hmap s hb
 have hD1:w1.ownsMap Tryz.prog 9 slE mb n D:=by
  obtain⟨es,clock,hb,F,hs',hD'⟩:=hD
  exact⟨es,clock,hk1.at hb hm1,F,hs',hD'⟩
 obtain⟨w2,hrun,hD2,hg2⟩:=hD1.update law_string Tryz.underlying134 hn (keyOf_string_mk Tryz.underlying9 hs) (slE_mk (SlV.own hv))
 have hvm:v'.ownBlock≠some mb:=by
  rcases hl with e | ⟨g,e,hgs⟩
  ·rw [e];exact hmap s
  rw [e];intro e2;cases e2;omega
 have hk2:Kept [mb] w1 w2:=Kept.grown hg2 (fun k hk=>by cases hk;simp)
 refine⟨w2,hrun,⟨⟨_,hD2,fun u=>?_⟩,fun u=>?_,fun u u' g hne hu=>?_,fun u=>?_⟩,hg2⟩
 ·by_cases hu:u=s
  ·subst hu
   rw [Maps.atKey_put_same hD1.isMap (by trivial),updS_same]
  rw [Maps.atKey_put_other (litS_ne hu),updS_other _ _ hu,h2 u]
 ·by_cases hu:u=s
  ·subst hu
   rw [updS_same,updS_same,List.length_append,List.map_append]
   exact hk2.own hv (fun g hg' hm=>by simp only [List.mem_singleton] at hm;subst hm;exact hvm hg')
  rw [updS_other _ _ hu,updS_other _ _ hu]
  refine hk2.own (hk1.own (h.rows u) (fun g hg' hm=>?_)) (fun g hg' hm=>?_)
  ·cases hb:(hd s).ownBlock with
   | none=>rw [hb] at hm;simp at hm
   | some g' =>
    rw [hb] at hm
    simp only [List.mem_singleton] at hm
    subst hm
    exact h.apart u s g hu hg' hb
  simp only [List.mem_singleton] at hm
  subst hm
  exact hmap u hg'
 ·have hlt:∀u g,(hd u).ownBlock=some g→g < w.heap.size:=fun u g e=>by
   rcases (h.rows u).2 with ⟨e2,-⟩ | ⟨g',cap,cur,e2,-,hc,-⟩
   ·rw [e2] at e;simp [Value.ownBlock] at e
   rw [e2] at e
   have:g'=g:=by simpa [Value.ownBlock] using e
   subst this
   exact block_lt hc
  by_cases e1:u=s
  ·subst e1
   rw [updS_same] at hu
   rw [updS_other _ _ (Ne.symm hne)]
   rcases hl with e | ⟨g',e,hgs⟩
   ·rw [e] at hu;exact h.apart u u' g hne hu
   rw [e] at hu
   intro e3
   cases hu
   have:=hlt u' _ e3
   omega
  rw [updS_other _ _ e1] at hu
  by_cases e2:u'=s
  ·subst e2
   rw [updS_same]
   rcases hl with e | ⟨g',e,hgs⟩
   ·rw [e];exact h.apart u u' g hne hu
   rw [e]
   intro e3
   cases e3
   have:=hlt u _ hu
   omega
  rw [updS_other _ _ e2]
  exact h.apart u u' g hne hu
 by_cases hu:u=s
 ·subst hu
  rw [updS_same,List.length_append]
  have:=h.le u
  simp;omega
 rw [updS_other _ _ hu]
 have:=h.le u
 omega
abbrev EnM:=ByteArray×Value×List Int
def entCells (es:List EnM):List Value:=es.flatMap fun x=>[.string x.1,x.2.1]
def entAbs (es:List EnM):List En:=es.map fun x=>(x.1,x.2.2)
theorem entAbs_snoc (es:List EnM) (x:EnM):entAbs (es++[x])=entAbs es++[(x.1,x.2.2)]:=by simp [entAbs]
theorem entCells_snoc (es:List EnM) (x:EnM):entCells es++[.string x.1,x.2.1]=entCells (es++[x]):=by simp [entCells]
def posF (s:ByteArray):Nat→List En→List Int
 | _,[]=>[]
 | k,x::r=>if x.1=s then (k:Int)::posF s (k+1) r else posF s (k+1) r
def posS (es:List En) (s:ByteArray):List Int:=posF s 0 es
theorem posF_snoc (s:ByteArray) (x:En):∀(es:List En) (k:Nat),posF s k (es++[x])=posF s k es++(if x.1=s then [((k+es.length:Nat):Int)] else [])
 | [],k=>by
   rw [List.nil_append,posF]
   split
   ·rename_i h;simp [posF,h]
   ·rename_i h;simp [posF,h]
 | y::r,k=>by
   have ih:=posF_snoc s x r (k+1)
   have e:k+1+r.length=k+(y::r).length:=by simp;omega
   rw [e] at ih
   rw [List.cons_append,posF,posF,ih]
   split<;>simp
theorem posS_snoc (es:List En) (x:En):posS (es++[x])=updS (posS es) x.1 (posS es x.1++[(es.length:Int)]):=by
 funext s
 unfold posS
 rw [posF_snoc,Nat.zero_add]
 by_cases h:x.1=s
 ·subst h
  rw [if_pos rfl,updS_same]
 rw [if_neg h,updS_other _ _ (Ne.symm h),List.append_nil]
def WordsAt (w:World) (wb:Nat) (es:List En):Prop:=∃(mb:Nat) (lv:Value) (xs:List EnM),w.heap[wb]?=some (.cells #[lv,.map (some mb)] 136 (0,0))∧entAbs xs=es∧Rd w 2 lv xs.length (entCells xs)∧(∀x∈xs,FS w x.2.1 x.2.2)∧∃B n hd,FndM B w mb n hd (posS es)
theorem WordsAt.keep {w w':World} {wb:Nat} {es:List En} (h:WordsAt w wb es) (hb:Below w.heap.size w w'):WordsAt w' wb es:=by
 obtain⟨mb,lv,xs,h1,h2,h3,h4,B,n,hd,h5⟩:=h
 exact⟨mb,lv,xs,(hb.block _ (block_lt h1)).trans h1,h2,h3.keep hb,fun x hx=>(h4 x hx).keep hb,B,n,hd,h5.kept (Kept.of_below (E:=[]) hb) (by simp) (by simp)⟩
def DicP (r:Except (Int×Int) (List En)) (w:World) (e:Ending) (w':World):Prop:=Below w.heap.size w w'∧match r with
 | .error p=>e=.returned (.tuple #[.pointer none,.agg #[.int .i64 2,.int .i64 p.1,.int .i64 p.2]])
 | .ok es=>∃wb,e=.returned (.tuple #[.pointer (some ⟨wb,0,none⟩),.agg #[.int .i64 0,.int .i64 0,.int .i64 0]])∧WordsAt w' wb es∧w.heap.size≤wb
structure DW (W wr:World) (mb wb n:Nat) (lv:Value) (xs:List EnM) (hd:ByteArray→Value) (ix:ByteArray→List Int):Prop where
 kept:Kept [mb,wb] W wr
 mlt:mb < W.heap.size
 wlt:wb < W.heap.size
 words:wr.heap[wb]?=some (.cells #[lv,.map (some mb)] 136 (0,0))
 list:wr.ownsRow W.heap.size 35 2 lv xs.length (entCells xs)
 found:FndM W.heap.size wr mb n hd ix
 fl:∀x∈xs,FS wr x.2.1 x.2.2∧∀g o n c,x.2.1=.slice (some ⟨g,o,none⟩) n c→n≠0→g < wr.heap.size∧lv.ownBlock≠some g∧(∀s,(hd s).ownBlock≠some g)∧g≠mb∧g≠wb
section
variable {W wr w':World} {mb wb n:Nat} {lv:Value} {xs:List EnM} {hd:ByteArray→Value} {ix:ByteArray→List Int}
theorem own_ge {B e size n g:Nat} {w:World} {v:Value} {us:List Value} (h:w.ownsRow B e size v n us) (hg:v.ownBlock=some g):B≤g∧g < w.heap.size∧∃cur,w.heap[g]?=some (.cells cur e (0,0)):=by
 rcases h.2 with ⟨rfl,_⟩ | ⟨g',cap,cur,rfl,h1,h2,_⟩
 ·simp [Value.ownBlock] at hg
 have:g'=g:=by simpa [Value.ownBlock] using hg
 subst this
 exact⟨h1,block_lt h2,cur,h2⟩
theorem DW.below (h:DW W wr mb wb n lv xs hd ix) (hb:Below wr.heap.size wr w'):DW W w' mb wb n lv xs hd ix:=by
 have hk:Kept [] wr w':=Kept.of_below hb
 refine⟨h.kept.trans' hk (by simp),h.mlt,h.wlt,hk.at h.words (by simp),hk.own h.list (by simp),h.found.kept hk (by simp) (by simp),fun x hx=>?_⟩
 obtain⟨h1,h2⟩:=h.fl x hx
 refine⟨h1.keep hb,fun g o n c e hn=>?_⟩
 obtain⟨q1,q2,q3,q4,q5⟩:=h2 g o n c e hn
 exact⟨Nat.lt_of_lt_of_le q1 hb.size,q2,q3,q4,q5⟩
theorem DW.c0 (h:DW W wr mb wb n lv xs hd ix):wr.cell? ⟨wb,0,none⟩=some lv:=cell_of_heap h.words 0
theorem DW.z0 (h:DW W wr mb wb n lv xs hd ix):wr.frozen? ⟨wb,0,none⟩=false:=frozen_of_heap h.words 0
theorem DW.apart (h:DW W wr mb wb n lv xs hd ix):(∀g,lv.ownBlock=some g→g≠mb∧g≠wb∧∀s,(hd s).ownBlock≠some g)∧∀s g,(hd s).ownBlock=some g→g≠mb∧g≠wb∧lv.ownBlock≠some g:=by
 have hm:=h.mlt
 have hw:=h.wlt
 refine⟨fun g hg=>?_,fun s g hg=>?_⟩
 ·obtain⟨g1,g2,cur,g3⟩:=own_ge h.list hg
  refine⟨by omega,by omega,fun s hs=>?_⟩
  obtain⟨-,-,cur2,g4⟩:=own_ge (h.found.rows s) hs
  rw [g3] at g4
  injection g4 with g4
  injection g4 with _ g5 _
  exact absurd g5 (by decide)
 obtain⟨g1,g2,cur,g3⟩:=own_ge (h.found.rows s) hg
 refine⟨by omega,by omega,fun hs=>?_⟩
 obtain⟨-,-,cur2,g4⟩:=own_ge h.list hs
 rw [g3] at g4
 injection g4 with g4
 injection g4 with _ g5 _
 exact absurd g5 (by decide)
theorem FS.blocks {w w':World} {v:Value} {zs:List Int} (h:FS w v zs) (hb:∀g o n c,v=.slice (some ⟨g,o,none⟩) n c→n≠0→w'.heap[g]?=w.heap[g]?):FS w' v zs:=by
 obtain⟨p,c,hv,hc,h⟩:=h
 refine⟨p,c,hv,hc,?_⟩
 by_cases h0:zs.length=0
 ·exact .inl h0
 obtain⟨b,off,hp,h2⟩:=h.resolve_left h0
 exact .inr ⟨b,off,hp,fun j hj=>(World.cell?_of_block (hb b off _ c (by rw [hv,hp]) h0)).trans (h2 j hj)⟩
theorem DW.push (h:DW W wr mb wb n lv xs hd ix) (x:EnM) (lv':Value) {w1:World} (hx:FS wr x.2.1 x.2.2) (hx2:∀g o n c,x.2.1=.slice (some ⟨g,o,none⟩) n c→n≠0→g < wr.heap.size∧lv.ownBlock≠some g∧(∀s,(hd s).ownBlock≠some g)∧g≠mb∧g≠wb)
  (hown:w1.ownsRow W.heap.size 35 2 lv' (xs.length+1) (entCells xs++[.string x.1,x.2.1])) (hg:wr.grownBy w1 lv.ownBlock) (hl:lv'.ownBlock=lv.ownBlock∨∃g,lv'.ownBlock=some g∧wr.heap.size≤g) :
  DW W (w1.setCell ⟨wb,0,none⟩ lv') mb wb n lv' (xs++[x]) hd ix:=by
 obtain⟨a1,a2⟩:=h.apart
 obtain⟨L,hL⟩:∃L:List Nat,L=(match lv.ownBlock with | some g=>[g] | none=>[]):=⟨_,rfl⟩
 have hLm:∀g,g∈L→lv.ownBlock=some g:=fun g hm=>by
  rw [hL] at hm
  cases hb:lv.ownBlock with
  | none=>rw [hb] at hm;simp at hm
  | some g'=>rw [hb] at hm;simp at hm;rw [hm]
 have hk1:Kept L wr w1:=Kept.grown hg (fun k hk=>by rw [hL,hk];simp)
 have hk2:Kept [wb] w1 (w1.setCell ⟨wb,0,none⟩ lv'):=(Kept.refl _ _).set _ _ _ (.inl (by simp))
 have hw1:w1.heap[wb]?=some (.cells #[lv,.map (some mb)] 136 (0,0)):=hk1.at h.words (fun hm=>(a1 _ (hLm _ hm)).2.1 rfl)
 have hlv':∀g,lv'.ownBlock=some g→g≠wb:=fun g hg'=>by
  rcases hl with e | ⟨g2,e,h2⟩
  ·rw [e] at hg';exact (a1 g hg').2.1
  rw [e] at hg';cases hg'
  have:=h.wlt;have:=h.kept.size;omega
 refine⟨?_,h.mlt,h.wlt,heap_setCell_same w1 wb 0 _ _ _ hw1,?_,(h.found.kept hk1 (fun hm=>(a1 _ (hLm _ hm)).1 rfl) (fun s g hs hm=>(a2 s g hs).2.2 (hLm _ hm))).kept hk2 (by simp only [List.mem_singleton];intro e;have h1:=h.words;have h2:=h.found.map;obtain⟨D,⟨es,clock,hb,-⟩,-⟩:=h2;rw [e,h1] at hb;cases hb) (fun s g hs hm=>by simp only [List.mem_singleton] at hm;exact (a2 s g hs).2.1 hm),fun y hy=>?_⟩
 ·refine (h.kept.trans' hk1 (fun g hm=>.inr ?_)).trans' hk2 (by simp)
  exact (own_ge h.list (hLm g hm)).1
 ·rw [List.length_append,←entCells_snoc]
  exact hk2.own hown (fun g hg' hm=>by simp only [List.mem_singleton] at hm;exact hlv' g hg' hm)
 have key:∀g,g < wr.heap.size→lv.ownBlock≠some g→g≠wb→(w1.setCell ⟨wb,0,none⟩ lv').heap[g]?=wr.heap[g]?:=fun g q1 q2 q5=>by
  rw [Below.heap_setCell _ _ _ _ (by simpa using q5)]
  exact hk1.block g q1 (fun hm=>q2 (hLm g hm))
 have hy2:FS wr y.2.1 y.2.2∧∀g o n c,y.2.1=.slice (some ⟨g,o,none⟩) n c→n≠0→g < wr.heap.size∧lv.ownBlock≠some g∧(∀s,(hd s).ownBlock≠some g)∧g≠mb∧g≠wb:=by
  rcases List.mem_append.1 hy with hy | hy
  ·exact h.fl y hy
  simp only [List.mem_singleton] at hy;subst hy;exact⟨hx,hx2⟩
 refine⟨hy2.1.blocks (fun g o n c e hn=>by obtain⟨q1,q2,-,-,q5⟩:=hy2.2 g o n c e hn;exact key g q1 q2 q5),fun g o n c e hn=>?_⟩
 obtain⟨q1,q2,q3,q4,q5⟩:=hy2.2 g o n c e hn
 refine⟨Nat.lt_of_lt_of_le q1 (by simpa using hk1.size),?_,q3,q4,q5⟩
 rcases hl with e2 | ⟨g2,e2,h2⟩
 ·rw [e2];exact q2
 rw [e2];intro e3;cases e3;omega
theorem DW.ne (h:DW W wr mb wb n lv xs hd ix):wb≠mb:=fun e=>by
 have h1:=h.words
 obtain⟨D,⟨es,clock,hb,-⟩,-⟩:=h.found.map
 rw [e,hb] at h1;cases h1
theorem DW.store (h:DW W wr mb wb n lv xs hd ix) (s:ByteArray) (x:Int) (v':Value) {w1:World} (hs:s.size≤maxLen) (hn:n < maxLen)
  (hv:w1.ownsRow W.heap.size 3 1 v' ((ix s).length+1) ((ix s).map (Value.int .i64)++[Value.int .i64 x])) (hg:wr.grownBy w1 (hd s).ownBlock) (hl:v'.ownBlock=(hd s).ownBlock∨∃g,v'.ownBlock=some g∧wr.heap.size≤g) :
  ∃w2,(Instr.mapUpdate 134 (.map (some mb)) (.string s) v').run Tryz.prog w1=.ok () w2∧DW W w2 mb wb (n+1) lv xs (updS hd s v') (updS ix s (ix s++[x]))∧∀y,y < wr.heap.size→(hd s).ownBlock≠some y→y≠mb→w2.heap[y]?=wr.heap[y]?:=by
 obtain⟨a1,a2⟩:=h.apart
 have hne:=h.ne
 have hks:=h.kept.size
 have hm:=h.mlt
 have hw:=h.wlt
 obtain⟨w2,hrun,hF,hg2⟩:=h.found.store s x v' hs hn (by omega) hv hg hl
 obtain⟨L,hL⟩:∃L:List Nat,L=(match (hd s).ownBlock with | some g=>[g] | none=>[]):=⟨_,rfl⟩
 have hLm:∀g,g∈L→(hd s).ownBlock=some g:=fun g hm=>by
  rw [hL] at hm
  cases hb:(hd s).ownBlock with
  | none=>rw [hb] at hm;simp at hm
  | some g'=>rw [hb] at hm;simp at hm;rw [hm]
 have hk1:Kept L wr w1:=Kept.grown hg (fun k hk=>by rw [hL,hk];simp)
 have hk2:Kept [mb] w1 w2:=Kept.grown hg2 (fun k hk=>by cases hk;simp)
 have key:∀g,g < wr.heap.size→(∀u,(hd u).ownBlock≠some g)→g≠mb→w2.heap[g]?=wr.heap[g]?:=fun g q1 q3 q4 =>
  (hk2.block g (Nat.lt_of_lt_of_le q1 hk1.size) (by simpa using q4)).trans (hk1.block g q1 (fun hm=>q3 s (hLm g hm)))
 have key2:∀y,y < wr.heap.size→(hd s).ownBlock≠some y→y≠mb→w2.heap[y]?=wr.heap[y]?:=fun g q1 q3 q4 =>
  (hk2.block g (Nat.lt_of_lt_of_le q1 hk1.size) (by simpa using q4)).trans (hk1.block g q1 (fun hm=>q3 (hLm g hm)))
 refine⟨w2,hrun,⟨(h.kept.trans' hk1 (fun g hg'=>.inr (own_ge (h.found.rows s) (hLm g hg')).1)).trans' hk2 (by simp),hm,hw,?_,?_,hF,fun y hy=>?_⟩,key2⟩
 ·exact hk2.at (hk1.at h.words (fun hm=>(a2 s _ (hLm _ hm)).2.1 rfl)) (by simpa using hne)
 ·exact hk2.own (hk1.own h.list (fun g hg' hm=>(a2 s g (hLm g hm)).2.2 hg')) (fun g hg' hm=>by simp only [List.mem_singleton] at hm;exact (a1 g hg').1 hm)
 obtain⟨h1,h2⟩:=h.fl y hy
 refine⟨h1.blocks (fun g o n c e hn=>by obtain⟨q1,q2,q3,q4,q5⟩:=h2 g o n c e hn;exact key g q1 q3 q4),fun g o n c e hn=>?_⟩
 obtain⟨q1,q2,q3,q4,q5⟩:=h2 g o n c e hn
 refine⟨Nat.lt_of_lt_of_le q1 (Nat.le_trans hk1.size hk2.size),q2,fun u=>?_,q4,q5⟩
 by_cases hu:u=s
 ·subst hu
  rw [updS_same]
  rcases hl with e2 | ⟨g2,e2,hg3⟩
  ·rw [e2];exact q3 u
  rw [e2];intro e3;cases e3;omega
 rw [updS_other _ _ hu];exact q3 u
end
end Go.Proofs.YtfkblpjfknfgbaaGreatDoor
