/-
 Parts of the proof: AS3, AS4, AS5, AF1, AW1, AF2, AF3, AF4, AF5, AF6, Held, AF7, AS6.
-/
import Derived.Test.YtfkblpjfknfgbaaGreatDoorRows
import Derived.Test.YtfkblpjfknfgbaaGreatDoorS4
import Derived.Test.YtfkblpjfknfgbaaGreatDoorS3
import Derived.Deep.RegionWith
import Derived.Test.YtfkblpjfknfgbaaGreatDoorS1
import Derived.Deep.RegionHeld3
import Derived.Deep.DrawnRows
import Derived.BigRegion
import Derived.RegionTactic
set_option linter.unusedVariables false
set_option linter.unusedSimpArgs false
set_option maxHeartbeats 8000000
set_option maxRecDepth 100000
open Go Go.Maps Go.RowKit
open Go.Lib (hid cell_of_heap frozen_of_heap byteCells)
open Go.World (block_lt_of_cell?)
namespace Go.Proofs.YtfkblpjfknfgbaaGreatDoor
section
variable {w0 w w':World} {L L' X:List Nat} {i:Ids} {v:Vs} {E:Int} {S:Sx} {nx:List Int} {tf:Int→Int} {tn cn:Nat} {cf:Int→Option Nat}
def TyB (w:World) (g e:Nat):Prop:=∃cur fr,w.heap[g]?=some (.cells cur e fr)
theorem TyB.ne {g g' e e':Nat} (h:TyB w g e) (h':TyB w g' e') (hne:e≠e'):g≠g':=by
 obtain⟨a,b,h⟩:=h
 obtain⟨c,d,h'⟩:=h'
 exact not_in_ty h h' hne
def MapB (w:World) (b:Nat):Prop:=∃es c,w.heap[b]?=some (.map es c)
theorem TyB.ne_map {g b e:Nat} (h:TyB w g e) (h':MapB w b):b≠g:=by
 obtain⟨a,d,h⟩:=h
 obtain⟨es,c,h'⟩:=h'
 exact not_in_map (e:=e) h' h
structure Rest (w0 w':World) (L' X:List Nat) (i:Ids) (v:Vs) (E:Int) (S:Sx) (nx:List Int) (tf:Int→Int) (tn:Nat) (cf:Int→Option Nat) (cn:Nat):Prop where
 base:Below w0.heap.size w0 w'
 hl:∀x∈L',w0.heap.size≤x∧x < w'.heap.size
 rbL:i.rb∈L'
 fbL:i.fb∈L'
 mbL:i.mb∈L'
 sbL:i.sb∈L'
 tbL:i.tb∈L'
 maps:i.mb≠i.sb∧i.mb≠i.tb∧i.sb≠i.tb
 rdr:i.rb∉X→w'.heap[i.rb]?=some (.cells (rdrV i v E S) 119 (0,0))
 file:i.fb∉X→w'.heap[i.fb]?=some (.cells (fileV i v S.fl) 116 (0,0))
 rows:RowsM w0 v.rows S.rows
 seen:i.sb∉X→CntS w' i.sb S.heads.length (fun s=>S.heads.count s)
 taken:i.tb∉X→CntF w' i.tb tn tf
 cmap:i.mb∉X→PlF w' i.mb cn cf
 reps:(∀g,v.reps.ownBlock=some g→g∉X)→OwnL w' L' 145 2 v.reps S.fl.reps.length (repCells S.fl.reps)
 als:(∀g,v.als.ownBlock=some g→g∉X)→∃us:List Value,OwnL w' L' 29 1 v.als S.fl.als.length us∧us.length=S.fl.als.length∧∀(k:Nat) u a,us[k]?=some u→S.fl.als[k]?=some a→FO w' L' u a
 cls:(∀g,v.cls.ownBlock=some g→g∉X)→OwnL w' L' 99 5 v.cls S.fl.cls.length (clsCells S.fl.cls)
 rls:(∀g,v.rls.ownBlock=some g→g∉X)→∃rs:List (Rl×Value),rs.map (·.1)=S.fl.rls∧OwnL w' L' 31 7 v.rls rs.length (rlsCells rs)∧∀r∈rs,FO w' L' r.2 r.1.next
 nxs:(∀g,v.nxs.ownBlock=some g→g∉X)→OwnL w' L' 3 1 v.nxs nx.length (nx.map (Value.int .i64))
theorem RMv.rest (h:RMv w0 w L i v E S nx tf tn cf cn) (hk:Kept X w w') (hX:∀x∈X,x∈L) (hL:∀x∈L,x∈L') (hL':∀x∈L',(x∈L∨w.heap.size≤x)∧x < w'.heap.size):Rest w0 w' L' X i v E S nx tf tn cf cn:=by
 have hg:Go2 L w L' w':=⟨hk.mono hX,fun x hx=>(hL' x hx).1⟩
 refine⟨h.base.trans (hk.below h.base.size (fun x hx=>(h.hl x (hX x hx)).1)),fun x hx=>⟨?_,(hL' x hx).2⟩,hL _ h.rbL,hL _ h.fbL,hL _ h.mbL,hL _ h.sbL,hL _ h.tbL,h.maps,
  fun hx=>hk.at h.rdr hx,fun hx=>hk.at h.file hx,h.rows,fun hx=>h.seen.keep hk hx,fun hx=>h.taken.keep hk hx,fun hx=>h.cmap.keep hk hx,
  fun hx=>h.reps.keep hk hx hL,fun hx=>?_,fun hx=>h.cls.keep hk hx hL,fun hx=>?_,fun hx=>h.nxs.keep hk hx hL⟩
 ·rcases (hL' x hx).1 with h1 | h1
  ·exact (h.hl x h1).1
  exact Nat.le_trans h.base.size h1
 ·obtain⟨us,h1,h2,h3⟩:=h.als
  exact⟨us,h1.keep hk hx hL,h2,fun k u a hu ha=>(h3 k u a hu ha).keep hg⟩
 obtain⟨rs,h1,h2,h3⟩:=h.rls
 exact⟨rs,h1,h2.keep hk hx hL,fun r hr=>(h3 r hr).keep hg⟩
theorem Rest.all (h:Rest w0 w' L' [] i v E S nx tf tn cf cn):RMv w0 w' L' i v E S nx tf tn cf cn :=
 ⟨h.base,h.hl,h.rbL,h.fbL,h.mbL,h.sbL,h.tbL,h.maps,h.rdr (by simp),h.file (by simp),h.rows,h.seen (by simp),h.taken (by simp),h.cmap (by simp),h.reps (by simp),h.als (by simp),h.cls (by simp),h.rls (by simp),h.nxs (by simp)⟩
theorem RMv.below (h:RMv w0 w L i v E S nx tf tn cf cn) (hb:Below w.heap.size w w'):RMv w0 w' L i v E S nx tf tn cf cn :=
 (h.rest (Kept.of_below (E:=[]) hb) (by simp) (fun _ h=>h) (fun x hx=>⟨.inl hx,Nat.lt_of_lt_of_le (h.hl x hx).2 hb.size⟩)).all
theorem RM.below {kh k:Nat} (h:RM w0 w L i E kh k S) (hb:Below w.heap.size w w'):RM w0 w' L i E kh k S:=by
 obtain⟨h1,v,h2⟩:=h
 exact⟨h1,v,h2.below hb⟩
theorem RMv.tyR (h:RMv w0 w L i v E S nx tf tn cf cn):TyB w i.rb 119:=⟨_,_,h.rdr⟩
theorem RMv.tyF (h:RMv w0 w L i v E S nx tf tn cf cn):TyB w i.fb 116:=⟨_,_,h.file⟩
theorem RMv.mapS (h:RMv w0 w L i v E S nx tf tn cf cn):MapB w i.sb:=h.seen.is
theorem RMv.mapT (h:RMv w0 w L i v E S nx tf tn cf cn):MapB w i.tb:=h.taken.is
theorem RMv.mapC (h:RMv w0 w L i v E S nx tf tn cf cn):MapB w i.mb:=h.cmap.is
theorem RMv.ty_reps (h:RMv w0 w L i v E S nx tf tn cf cn) (g:Nat) (hg:v.reps.ownBlock=some g):TyB w g 145:=h.reps.ty g hg
theorem RMv.ty_als (h:RMv w0 w L i v E S nx tf tn cf cn) (g:Nat) (hg:v.als.ownBlock=some g):TyB w g 29:=by obtain⟨us,h1,_⟩:=h.als;exact h1.ty g hg
theorem RMv.ty_cls (h:RMv w0 w L i v E S nx tf tn cf cn) (g:Nat) (hg:v.cls.ownBlock=some g):TyB w g 99:=h.cls.ty g hg
theorem RMv.ty_rls (h:RMv w0 w L i v E S nx tf tn cf cn) (g:Nat) (hg:v.rls.ownBlock=some g):TyB w g 31:=by obtain⟨us,_,h1,_⟩:=h.rls;exact h1.ty g hg
theorem RMv.ty_nxs (h:RMv w0 w L i v E S nx tf tn cf cn) (g:Nat) (hg:v.nxs.ownBlock=some g):TyB w g 3:=h.nxs.ty g hg
theorem ty_out {e e' g:Nat} (hX:∀x∈X,TyB w x e) (h:TyB w g e') (hne:e'≠e):g∉X:=fun hm=>h.ne (hX g hm) hne rfl
theorem map_out {e g:Nat} (hX:∀x∈X,TyB w x e) (h:MapB w g):g∉X:=fun hm=>(hX g hm).ne_map h rfl
end
section
variable {w0 w w':World} {L:List Nat} {i:Ids} {v:Vs} {E:Int} {S:Sx} {nx:List Int} {tf:Int→Int} {tn cn:Nat} {cf:Int→Option Nat}
theorem RMv.r0 (h:RMv w0 w L i v E S nx tf tn cf cn):w.cell? ⟨i.rb,0,none⟩=some (.pointer (some ⟨i.fb,0,none⟩)):=by rw [cell_of_heap h.rdr];rfl
theorem RMv.r1 (h:RMv w0 w L i v E S nx tf tn cf cn):w.cell? ⟨i.rb,1,none⟩=some v.rows:=by rw [cell_of_heap h.rdr];rfl
theorem RMv.r2 (h:RMv w0 w L i v E S nx tf tn cf cn):w.cell? ⟨i.rb,2,none⟩=some (.int .i64 S.line):=by rw [cell_of_heap h.rdr];rfl
theorem RMv.r3 (h:RMv w0 w L i v E S nx tf tn cf cn):w.cell? ⟨i.rb,3,none⟩=some (.int .i64 E):=by rw [cell_of_heap h.rdr];rfl
theorem RMv.r4 (h:RMv w0 w L i v E S nx tf tn cf cn):w.cell? ⟨i.rb,4,none⟩=some (.map (some i.sb)):=by rw [cell_of_heap h.rdr];rfl
theorem RMv.r5 (h:RMv w0 w L i v E S nx tf tn cf cn):w.cell? ⟨i.rb,5,none⟩=some (.map (some i.tb)):=by rw [cell_of_heap h.rdr];rfl
theorem RMv.r6 (h:RMv w0 w L i v E S nx tf tn cf cn):w.cell? ⟨i.rb,6,none⟩=some v.nxs:=by rw [cell_of_heap h.rdr];rfl
theorem RMv.rz (h:RMv w0 w L i v E S nx tf tn cf cn) (j:Nat):w.frozen? ⟨i.rb,j,none⟩=false:=frozen_of_heap h.rdr j
theorem RMv.f0 (h:RMv w0 w L i v E S nx tf tn cf cn):w.cell? ⟨i.fb,0,none⟩=some (.int .i64 S.fl.kind):=by rw [cell_of_heap h.file];rfl
theorem RMv.f8 (h:RMv w0 w L i v E S nx tf tn cf cn):w.cell? ⟨i.fb,8,none⟩=some (.int .i64 S.fl.least):=by rw [cell_of_heap h.file];rfl
theorem RMv.f9 (h:RMv w0 w L i v E S nx tf tn cf cn):w.cell? ⟨i.fb,9,none⟩=some v.reps:=by rw [cell_of_heap h.file];rfl
theorem RMv.f10 (h:RMv w0 w L i v E S nx tf tn cf cn):w.cell? ⟨i.fb,10,none⟩=some v.als:=by rw [cell_of_heap h.file];rfl
theorem RMv.f11 (h:RMv w0 w L i v E S nx tf tn cf cn):w.cell? ⟨i.fb,11,none⟩=some v.cls:=by rw [cell_of_heap h.file];rfl
theorem RMv.f12 (h:RMv w0 w L i v E S nx tf tn cf cn):w.cell? ⟨i.fb,12,none⟩=some v.rls:=by rw [cell_of_heap h.file];rfl
theorem RMv.f13 (h:RMv w0 w L i v E S nx tf tn cf cn):w.cell? ⟨i.fb,13,none⟩=some (.map (some i.mb)):=by rw [cell_of_heap h.file];rfl
theorem RMv.fz (h:RMv w0 w L i v E S nx tf tn cf cn) (j:Nat):w.frozen? ⟨i.fb,j,none⟩=false:=frozen_of_heap h.file j
theorem RMv.rf (h:RMv w0 w L i v E S nx tf tn cf cn):i.rb≠i.fb:=h.tyR.ne h.tyF (by decide)
theorem set_kept (w:World) (b j:Nat) (x:Value):Kept [b] w (w.setCell ⟨b,j,none⟩ x):=(Kept.refl [b] w).set b j x (.inl (by simp))
theorem set_size (w:World) (p:Addr) (x:Value):(w.setCell p x).heap.size=w.heap.size:=by simp [World.setCell]
theorem RMv.setR {v':Vs} {S':Sx} {nx':List Int} (h:RMv w0 w L i v E S nx tf tn cf cn) (j:Nat) (x:Value) (harr:(rdrV i v E S).setIfInBounds j x=rdrV i v' E S') (hf:S'.fl=S.fl) (hh:S'.heads=S.heads)
  (hv:v'.reps=v.reps∧v'.als=v.als∧v'.cls=v.cls∧v'.rls=v.rls) (hrows:RowsM w0 v'.rows S'.rows)
  (hnx:OwnL (w.setCell ⟨i.rb,j,none⟩ x) L 3 1 v'.nxs nx'.length (nx'.map (Value.int .i64))):RMv w0 (w.setCell ⟨i.rb,j,none⟩ x) L i v' E S' nx' tf tn cf cn:=by
 have hX:∀y∈[i.rb],TyB w y 119:=by intro y hy;simp at hy;subst hy;exact h.tyR
 have r:=h.rest (set_kept w i.rb j x) (by intro y hy;simp at hy;subst hy;exact h.rbL) (fun _ h=>h) (fun y hy=>⟨.inl hy,by rw [set_size];exact (h.hl y hy).2⟩)
 obtain⟨v1,v2,v3,v4⟩:=hv
 refine⟨r.base,r.hl,r.rbL,r.fbL,r.mbL,r.sbL,r.tbL,r.maps,?_,?_,hrows,?_,r.taken (map_out hX h.mapT),r.cmap (map_out hX h.mapC),?_,?_,?_,?_,hnx⟩
 ·rw [←harr];exact heap_setCell_same _ i.rb j _ _ _ h.rdr
 ·have:=r.file (ty_out hX h.tyF (by decide))
  rw [this];unfold fileV;rw [hf,v1,v2,v3,v4]
 ·rw [hh];exact r.seen (map_out hX h.mapS)
 ·rw [v1,hf];exact r.reps (fun g hg=>ty_out hX (h.ty_reps g hg) (by decide))
 ·rw [v2,hf];exact r.als (fun g hg=>ty_out hX (h.ty_als g hg) (by decide))
 ·rw [v3,hf];exact r.cls (fun g hg=>ty_out hX (h.ty_cls g hg) (by decide))
 rw [v4,hf];exact r.rls (fun g hg=>ty_out hX (h.ty_rls g hg) (by decide))
theorem RMv.setLine (h:RMv w0 w L i v E S nx tf tn cf cn) (l:Int):RMv w0 (w.setCell ⟨i.rb,2,none⟩ (.int .i64 l)) L i v E { S with line:=l } nx tf tn cf cn:=by
 have hX:∀y∈[i.rb],TyB w y 119:=by intro y hy;simp at hy;subst hy;exact h.tyR
 exact h.setR 2 _ (by rfl) rfl rfl ⟨rfl,rfl,rfl,rfl⟩ h.rows (h.nxs.keep (set_kept w i.rb 2 _) (fun g hg=>ty_out hX (h.ty_nxs g hg) (by decide)) (fun _ h=>h))
theorem RMv.setRows (h:RMv w0 w L i v E S nx tf tn cf cn) (u:Value) (rows:List Row) (hr:RowsM w0 u rows):RMv w0 (w.setCell ⟨i.rb,1,none⟩ u) L i { v with rows:=u } E { S with rows:=rows } nx tf tn cf cn:=by
 have hX:∀y∈[i.rb],TyB w y 119:=by intro y hy;simp at hy;subst hy;exact h.tyR
 exact h.setR 1 _ (by rfl) rfl rfl ⟨rfl,rfl,rfl,rfl⟩ hr (h.nxs.keep (set_kept w i.rb 1 _) (fun g hg=>ty_out hX (h.ty_nxs g hg) (by decide)) (fun _ h=>h))
theorem RMv.setF {F':Fl} (h:RMv w0 w L i v E S nx tf tn cf cn) (j:Nat) (x:Value) (harr:(fileV i v S.fl).setIfInBounds j x=fileV i v F') (h1:F'.reps=S.fl.reps) (h2:F'.als=S.fl.als) (h3:F'.cls=S.fl.cls) (h4:F'.rls=S.fl.rls) :
  RMv w0 (w.setCell ⟨i.fb,j,none⟩ x) L i v E { S with fl:=F' } nx tf tn cf cn:=by
 have hX:∀y∈[i.fb],TyB w y 116:=by intro y hy;simp at hy;subst hy;exact h.tyF
 have r:=h.rest (set_kept w i.fb j x) (by intro y hy;simp at hy;subst hy;exact h.fbL) (fun _ h=>h) (fun y hy=>⟨.inl hy,by rw [set_size];exact (h.hl y hy).2⟩)
 refine⟨r.base,r.hl,r.rbL,r.fbL,r.mbL,r.sbL,r.tbL,r.maps,r.rdr (ty_out hX h.tyR (by decide)),?_,r.rows,r.seen (map_out hX h.mapS),r.taken (map_out hX h.mapT),r.cmap (map_out hX h.mapC),?_,?_,?_,?_,r.nxs (fun g hg=>ty_out hX (h.ty_nxs g hg) (by decide))⟩
 ·show _=some (Obj.cells (fileV i v F') _ _)
  rw [←harr];exact heap_setCell_same _ i.fb j _ _ _ h.file
 ·show OwnL _ _ _ _ _ F'.reps.length (repCells F'.reps)
  rw [h1];exact r.reps (fun g hg=>ty_out hX (h.ty_reps g hg) (by decide))
 ·have:=r.als (fun g hg=>ty_out hX (h.ty_als g hg) (by decide))
  simpa only [h2] using this
 ·show OwnL _ _ _ _ _ F'.cls.length (clsCells F'.cls)
  rw [h3];exact r.cls (fun g hg=>ty_out hX (h.ty_cls g hg) (by decide))
 have:=r.rls (fun g hg=>ty_out hX (h.ty_rls g hg) (by decide))
 simpa only [h4] using this
theorem RMv.setSeen {S':Sx} (h:RMv w0 w L i v E S nx tf tn cf cn) (hk:Kept [i.sb] w w') (hS:CntS w' i.sb S'.heads.length (fun s=>S'.heads.count s)) (hf:S'.fl=S.fl) (hr:S'.rows=S.rows) (hl:S'.line=S.line) :
  RMv w0 w' L i v E S' nx tf tn cf cn:=by
 have o1:∀{g e:Nat},TyB w g e→g∉[i.sb]:=fun hg hm=>by simp at hm;exact hg.ne_map h.mapS hm.symm
 have r:=h.rest hk (by intro y hy;simp at hy;subst hy;exact h.sbL) (fun _ h=>h) (fun y hy=>⟨.inl hy,Nat.lt_of_lt_of_le (h.hl y hy).2 hk.size⟩)
 refine⟨r.base,r.hl,r.rbL,r.fbL,r.mbL,r.sbL,r.tbL,r.maps,?_,?_,by rw [hr];exact r.rows,hS,r.taken (by simpa using Ne.symm h.maps.2.2),r.cmap (by simpa using h.maps.1),?_,?_,?_,?_,r.nxs (fun g hg=>o1 (h.ty_nxs g hg))⟩
 ·have:=r.rdr (o1 h.tyR);rw [this];unfold rdrV;rw [hl]
 ·rw [hf];exact r.file (o1 h.tyF)
 ·rw [hf];exact r.reps (fun g hg=>o1 (h.ty_reps g hg))
 ·rw [hf];exact r.als (fun g hg=>o1 (h.ty_als g hg))
 ·rw [hf];exact r.cls (fun g hg=>o1 (h.ty_cls g hg))
 rw [hf];exact r.rls (fun g hg=>o1 (h.ty_rls g hg))
theorem RMv.setTaken {tf':Int→Int} {tn':Nat} (h:RMv w0 w L i v E S nx tf tn cf cn) (hk:Kept [i.tb] w w') (hS:CntF w' i.tb tn' tf'):RMv w0 w' L i v E S nx tf' tn' cf cn:=by
 have o1:∀{g e:Nat},TyB w g e→g∉[i.tb]:=fun hg hm=>by simp at hm;exact hg.ne_map h.mapT hm.symm
 have r:=h.rest hk (by intro y hy;simp at hy;subst hy;exact h.tbL) (fun _ h=>h) (fun y hy=>⟨.inl hy,Nat.lt_of_lt_of_le (h.hl y hy).2 hk.size⟩)
 exact⟨r.base,r.hl,r.rbL,r.fbL,r.mbL,r.sbL,r.tbL,r.maps,r.rdr (o1 h.tyR),r.file (o1 h.tyF),r.rows,r.seen (by simpa using h.maps.2.2),hS,r.cmap (by simpa using h.maps.2.1),r.reps (fun g hg=>o1 (h.ty_reps g hg)),
  r.als (fun g hg=>o1 (h.ty_als g hg)),r.cls (fun g hg=>o1 (h.ty_cls g hg)),r.rls (fun g hg=>o1 (h.ty_rls g hg)),r.nxs (fun g hg=>o1 (h.ty_nxs g hg))⟩
theorem RMv.setCmap {cf':Int→Option Nat} {cn':Nat} (h:RMv w0 w L i v E S nx tf tn cf cn) (hk:Kept [i.mb] w w') (hS:PlF w' i.mb cn' cf'):RMv w0 w' L i v E S nx tf tn cf' cn':=by
 have o1:∀{g e:Nat},TyB w g e→g∉[i.mb]:=fun hg hm=>by simp at hm;exact hg.ne_map h.mapC hm.symm
 have r:=h.rest hk (by intro y hy;simp at hy;subst hy;exact h.mbL) (fun _ h=>h) (fun y hy=>⟨.inl hy,Nat.lt_of_lt_of_le (h.hl y hy).2 hk.size⟩)
 exact⟨r.base,r.hl,r.rbL,r.fbL,r.mbL,r.sbL,r.tbL,r.maps,r.rdr (o1 h.tyR),r.file (o1 h.tyF),r.rows,r.seen (by simpa using Ne.symm h.maps.1),r.taken (by simpa using Ne.symm h.maps.2.1),hS,r.reps (fun g hg=>o1 (h.ty_reps g hg)),
  r.als (fun g hg=>o1 (h.ty_als g hg)),r.cls (fun g hg=>o1 (h.ty_cls g hg)),r.rls (fun g hg=>o1 (h.ty_rls g hg)),r.nxs (fun g hg=>o1 (h.ty_nxs g hg))⟩
end
structure Pushed (w w2:World) (L L' X:List Nat) (b eb:Nat) (j:Nat) (x:Value) (e size:Nat) (v':Value) (m:Nat) (ys:List Value):Prop where
 kept:Kept X w w2
 sub:∀y∈L,y∈L'
 sup:∀y∈L',(y∈L∨w.heap.size≤y)∧y < w2.heap.size
 own:OwnL w2 L' e size v' m ys
 inL:∀y∈X,y∈L
 cell:∀cur,w.heap[b]?=some (.cells cur eb (0,0))→w2.heap[b]?=some (.cells (cur.setIfInBounds j x) eb (0,0))
 tys:∀y∈X,TyB w y e∨TyB w y eb
theorem Pushed.go {w w2:World} {L L' X:List Nat} {b eb j e size m:Nat} {x v':Value} {ys:List Value} (h:Pushed w w2 L L' X b eb j x e size v' m ys):Go2 L w L' w2:=⟨h.kept.mono h.inL,fun y hy=>(h.sup y hy).1⟩
theorem Pushed.out {w w2:World} {L L' X:List Nat} {b eb j e size m:Nat} {x v':Value} {ys:List Value} (h:Pushed w w2 L L' X b eb j x e size v' m ys) {g e':Nat} (hg:TyB w g e') (h1:e'≠e) (h2:e'≠eb):g∉X:=fun hm=>by
 rcases h.tys g hm with h3 | h3
 ·exact hg.ne h3 h1 rfl
 ·exact hg.ne h3 h2 rfl
theorem Pushed.outM {w w2:World} {L L' X:List Nat} {b eb j e size m:Nat} {x v':Value} {ys:List Value} (h:Pushed w w2 L L' X b eb j x e size v' m ys) {g:Nat} (hg:MapB w g):g∉X:=fun hm=>by
 rcases h.tys g hm with h3 | h3
 ·exact h3.ne_map hg rfl
 ·exact h3.ne_map hg rfl
def LocP (w w1:World) (v v':Value):Prop:=v'.ownBlock=v.ownBlock∨∃g,v'.ownBlock=some g∧w.heap.size≤g∧g < w1.heap.size
theorem pushed_of {w w1:World} {L:List Nat} {e size n m:Nat} {v v':Value} {xs ys:List Value} (h:OwnL w L e size v n xs) (hl:∀x∈L,x < w.heap.size) (hg:w.grownBy w1 v.ownBlock) (hown:w1.ownsRow 0 e size v' m ys) (hloc:LocP w w1 v v')
  (b eb:Nat) (hb:b∈L) (hty:TyB w b eb) (hne:e≠eb) (j:Nat) (x:Value):Pushed w (w1.setCell ⟨b,j,none⟩ x) L (L++v'.ownBlock.toList) (v.ownBlock.toList++[b]) b eb j x e size v' m ys:=by
 have hbv:∀g,v.ownBlock=some g→g≠b:=fun g hgv=>TyB.ne (h.ty g hgv) hty hne
 have hbv':∀g,v'.ownBlock=some g→g≠b:=fun g hgv=>by
  rcases hloc with h1 | ⟨g',h1,h2,_⟩
  ·exact hbv g (by rw [←h1];exact hgv)
  rw [hgv] at h1;cases h1
  have:=hl b hb;omega
 have hbn:some b≠v.ownBlock:=fun e1=>hbv b e1.symm rfl
 refine⟨?_,fun y hy=>List.mem_append.2 (.inl hy),?_,?_,?_,?_,?_⟩
 ·refine (Kept.grown (E:=v.ownBlock.toList++[b]) hg (fun k hk=>by rw [hk];simp)).set b j x (.inl (by simp))
 ·intro y hy
  rw [set_size]
  rcases List.mem_append.1 hy with h1 | h1
  ·exact⟨.inl h1,Nat.lt_of_lt_of_le (hl y h1) hg.size⟩
  have h2:v'.ownBlock=some y:=by simpa using h1
  rcases hloc with h3 | ⟨g',h3,h4,h5⟩
  ·have h6:=h.2 y (by rw [←h3];exact h2)
   exact⟨.inl h6,Nat.lt_of_lt_of_le (hl y h6) hg.size⟩
  rw [h2] at h3;cases h3
  exact⟨.inr h4,h5⟩
 ·refine⟨(set_kept w1 b j x).own hown (fun g hgv=>by simpa using hbv' g hgv),fun g hgv=>List.mem_append.2 (.inr (by rw [hgv];simp))⟩
 ·intro y hy
  rcases List.mem_append.1 hy with h1 | h1
  ·exact h.2 y (by simpa using h1)
  simp at h1;subst h1;exact hb
 ·intro cur hc
  exact heap_setCell_same w1 b j cur eb x ((hg.block b (hl b hb) hbn).trans hc)
 intro y hy
 rcases List.mem_append.1 hy with h1 | h1
 ·exact .inl (h.ty y (by simpa using h1))
 simp at h1;subst h1;exact .inr hty
section
variable {w0 w w1:World} {L:List Nat} {i:Ids} {v:Vs} {E:Int} {S:Sx} {nx:List Int} {tf:Int→Int} {tn cn:Nat} {cf:Int→Option Nat} {v':Value}
theorem RMv.push_reps (h:RMv w0 w L i v E S nx tf tn cf cn) (a b:ByteArray) (hg:w.grownBy w1 v.reps.ownBlock) (hloc:LocP w w1 v.reps v') (hown:w1.ownsRow 0 145 2 v' (S.fl.reps.length+1) (repCells S.fl.reps++[.string a,.string b])) :
  ∃L',Go2 L w L' (w1.setCell ⟨i.fb,9,none⟩ v')∧RMv w0 (w1.setCell ⟨i.fb,9,none⟩ v') L' i { v with reps:=v' } E { S with fl:={ S.fl with reps:=S.fl.reps++[(a,b)] } } nx tf tn cf cn:=by
 have p:=pushed_of h.reps (fun x hx=>(h.hl x hx).2) hg hown hloc i.fb 116 h.fbL h.tyF (by decide) 9 v'
 have r:=h.rest p.kept p.inL p.sub p.sup
 refine⟨_,p.go,r.base,r.hl,r.rbL,r.fbL,r.mbL,r.sbL,r.tbL,r.maps,r.rdr (p.out h.tyR (by decide) (by decide)),by have:=p.cell _ h.file;exact this,r.rows,r.seen (p.outM h.mapS),r.taken (p.outM h.mapT),r.cmap (p.outM h.mapC),by have:=p.own;rw [show repCells S.fl.reps++[Value.string a,.string b]=repCells (S.fl.reps++[(a,b)]) by simp [repCells]] at this;simpa using this,r.als (fun g hg=>p.out (h.ty_als g hg) (by decide) (by decide)),r.cls (fun g hg=>p.out (h.ty_cls g hg) (by decide) (by decide)),r.rls (fun g hg=>p.out (h.ty_rls g hg) (by decide) (by decide)),r.nxs (fun g hg=>p.out (h.ty_nxs g hg) (by decide) (by decide))⟩
theorem RMv.push_cls (h:RMv w0 w L i v E S nx tf tn cf cn) (c:Cl) (hg:w.grownBy w1 v.cls.ownBlock) (hloc:LocP w w1 v.cls v') (hown:w1.ownsRow 0 99 5 v' (S.fl.cls.length+1) (clsCells S.fl.cls++[.int .u16 c.flag,.int .i64 c.kind,.bool c.cross,.int .i64 c.first,.int .i64 c.count])) :
  ∃L',Go2 L w L' (w1.setCell ⟨i.fb,11,none⟩ v')∧RMv w0 (w1.setCell ⟨i.fb,11,none⟩ v') L' i { v with cls:=v' } E { S with fl:={ S.fl with cls:=S.fl.cls++[c] } } nx tf tn cf cn:=by
 have p:=pushed_of h.cls (fun x hx=>(h.hl x hx).2) hg hown hloc i.fb 116 h.fbL h.tyF (by decide) 11 v'
 have r:=h.rest p.kept p.inL p.sub p.sup
 refine⟨_,p.go,r.base,r.hl,r.rbL,r.fbL,r.mbL,r.sbL,r.tbL,r.maps,r.rdr (p.out h.tyR (by decide) (by decide)),by have:=p.cell _ h.file;exact this,r.rows,r.seen (p.outM h.mapS),r.taken (p.outM h.mapT),r.cmap (p.outM h.mapC),r.reps (fun g hg=>p.out (h.ty_reps g hg) (by decide) (by decide)),r.als (fun g hg=>p.out (h.ty_als g hg) (by decide) (by decide)),by have:=p.own;rw [show clsCells S.fl.cls++[Value.int .u16 c.flag,.int .i64 c.kind,.bool c.cross,.int .i64 c.first,.int .i64 c.count]=clsCells (S.fl.cls++[c]) by simp [clsCells]] at this;simpa using this,r.rls (fun g hg=>p.out (h.ty_rls g hg) (by decide) (by decide)),r.nxs (fun g hg=>p.out (h.ty_nxs g hg) (by decide) (by decide))⟩
theorem RMv.push_nxs (h:RMv w0 w L i v E S nx tf tn cf cn) (l:Int) (hg:w.grownBy w1 v.nxs.ownBlock) (hloc:LocP w w1 v.nxs v') (hown:w1.ownsRow 0 3 1 v' (nx.length+1) (nx.map (Value.int .i64)++[.int .i64 l])) :
  ∃L',Go2 L w L' (w1.setCell ⟨i.rb,6,none⟩ v')∧RMv w0 (w1.setCell ⟨i.rb,6,none⟩ v') L' i { v with nxs:=v' } E S (nx++[l]) tf tn cf cn:=by
 have p:=pushed_of h.nxs (fun x hx=>(h.hl x hx).2) hg hown hloc i.rb 119 h.rbL h.tyR (by decide) 6 v'
 have r:=h.rest p.kept p.inL p.sub p.sup
 refine⟨_,p.go,r.base,r.hl,r.rbL,r.fbL,r.mbL,r.sbL,r.tbL,r.maps,by have:=p.cell _ h.rdr;exact this,r.file (p.out h.tyF (by decide) (by decide)),r.rows,r.seen (p.outM h.mapS),r.taken (p.outM h.mapT),r.cmap (p.outM h.mapC),r.reps (fun g hg=>p.out (h.ty_reps g hg) (by decide) (by decide)),r.als (fun g hg=>p.out (h.ty_als g hg) (by decide) (by decide)),r.cls (fun g hg=>p.out (h.ty_cls g hg) (by decide) (by decide)),r.rls (fun g hg=>p.out (h.ty_rls g hg) (by decide) (by decide)),by have:=p.own;rw [show nx.map (Value.int .i64)++[Value.int .i64 l]=(nx++[l]).map (Value.int .i64) by simp] at this;simpa using this⟩
theorem RMv.push_als (h:RMv w0 w L i v E S nx tf tn cf cn) (u:Value) (a:List Int) (hu:FO w L u a) (hg:w.grownBy w1 v.als.ownBlock) (hloc:LocP w w1 v.als v') (hown:∀us,w.ownsRow 0 29 1 v.als S.fl.als.length us→w1.ownsRow 0 29 1 v' (S.fl.als.length+1) (us++[u])) :
  ∃L',Go2 L w L' (w1.setCell ⟨i.fb,10,none⟩ v')∧RMv w0 (w1.setCell ⟨i.fb,10,none⟩ v') L' i { v with als:=v' } E { S with fl:={ S.fl with als:=S.fl.als++[a] } } nx tf tn cf cn:=by
 obtain⟨us,hr1,hr2,hr3⟩:=h.als
 have hown:=hown _ hr1.1
 have p:=pushed_of hr1 (fun x hx=>(h.hl x hx).2) hg hown hloc i.fb 116 h.fbL h.tyF (by decide) 10 v'
 have r:=h.rest p.kept p.inL p.sub p.sup
 refine⟨_,p.go,r.base,r.hl,r.rbL,r.fbL,r.mbL,r.sbL,r.tbL,r.maps,r.rdr (p.out h.tyR (by decide) (by decide)),by have:=p.cell _ h.file;exact this,r.rows,r.seen (p.outM h.mapS),r.taken (p.outM h.mapT),r.cmap (p.outM h.mapC),r.reps (fun g hg=>p.out (h.ty_reps g hg) (by decide) (by decide)),⟨us++[u],by simpa using p.own,by simp [hr2],fun k x y hx hy=>by
  by_cases hk:k < us.length
  ·rw [List.getElem?_append_left hk] at hx;rw [List.getElem?_append_left (by omega)] at hy;exact (hr3 k x y hx hy).keep p.go
  rw [List.getElem?_append_right (by omega)] at hx hy
  rw [hr2] at hx
  rcases hd:k - S.fl.als.length with _ | d
  ·rw [hd] at hx hy;simp at hx hy;subst hx hy;exact hu.keep p.go
  rw [hd] at hx;simp at hx⟩,r.cls (fun g hg=>p.out (h.ty_cls g hg) (by decide) (by decide)),r.rls (fun g hg=>p.out (h.ty_rls g hg) (by decide) (by decide)),r.nxs (fun g hg=>p.out (h.ty_nxs g hg) (by decide) (by decide))⟩
theorem RMv.push_rls (h:RMv w0 w L i v E S nx tf tn cf cn) (r0:Rl) (u:Value) (hu:FO w L u r0.next) (hg:w.grownBy w1 v.rls.ownBlock) (hloc:LocP w w1 v.rls v') (hown:∀rs:List (Rl×Value),rs.map (·.1)=S.fl.rls→w.ownsRow 0 31 7 v.rls rs.length (rlsCells rs)→w1.ownsRow 0 31 7 v' (rs.length+1) (rlsCells rs++rlsCells [(r0,u)])) :
  ∃L',Go2 L w L' (w1.setCell ⟨i.fb,12,none⟩ v')∧RMv w0 (w1.setCell ⟨i.fb,12,none⟩ v') L' i { v with rls:=v' } E { S with fl:={ S.fl with rls:=S.fl.rls++[r0] } } nx tf tn cf cn:=by
 obtain⟨rs,hr0,hr1,hr3⟩:=h.rls
 have hown:=hown _ hr0 hr1.1
 have p:=pushed_of hr1 (fun x hx=>(h.hl x hx).2) hg hown hloc i.fb 116 h.fbL h.tyF (by decide) 12 v'
 have r:=h.rest p.kept p.inL p.sub p.sup
 refine⟨_,p.go,r.base,r.hl,r.rbL,r.fbL,r.mbL,r.sbL,r.tbL,r.maps,r.rdr (p.out h.tyR (by decide) (by decide)),by have:=p.cell _ h.file;exact this,r.rows,r.seen (p.outM h.mapS),r.taken (p.outM h.mapT),r.cmap (p.outM h.mapC),r.reps (fun g hg=>p.out (h.ty_reps g hg) (by decide) (by decide)),r.als (fun g hg=>p.out (h.ty_als g hg) (by decide) (by decide)),r.cls (fun g hg=>p.out (h.ty_cls g hg) (by decide) (by decide)),⟨rs++[(r0,u)],by simp [hr0],by have:=p.own;rw [show rlsCells rs++rlsCells [(r0,u)]=rlsCells (rs++[(r0,u)]) by simp [rlsCells]] at this;simpa using this,fun q hq=>by
  rcases List.mem_append.1 hq with h1 | h1
  ·exact (hr3 q h1).keep p.go
  simp at h1;subst h1;exact hu.keep p.go⟩,r.nxs (fun g hg=>p.out (h.ty_nxs g hg) (by decide) (by decide))⟩
end
def flt (line c:Int):PanicEntry:={ v:=.iface 60 (.agg #[.int .i64 1,.int .i64 line,.int .i64 c]),recovered:=false }
def OutW {α:Type} (line:Int) (w:World) (V:α→Value) (R:Except Int α) (e:Ending) (w':World):Prop :=
 Below w.heap.size w w'∧match R with
  | .ok a=>e=.returned (V a)
  | .error c=>e=.panicked [flt line c]
def MustP (b:Bool) (line c:Int) (w:World) (e:Ending) (w':World):Prop:=((b=true∧e=.returned (.tuple #[]))∨(b=false∧e=.panicked [flt line c]))∧w=w'
theorem MustP.ok (line c:Int) (w:World):MustP true line c w (.returned (.tuple #[])) w:=⟨.inl ⟨rfl,rfl⟩,rfl⟩
theorem MustP.bad (line c:Int) (w:World):MustP false line c w (.panicked [flt line c]) w:=⟨.inr ⟨rfl,rfl⟩,rfl⟩
theorem so_need (rb:Nat) (line c:Int) (w:World) (h2:w.cell? ⟨rb,2,none⟩=some (.int .i64 line)) :
  Calls Tryz.prog 83 #[.pointer (some ⟨rb,0,none⟩),.int .i64 c] w (MustP (c==0) line c w):=by
 by_cases h:c=0
 ·subst h
  go_enter Tryz.func83,Tryz.ntmps83
  go_wp2_with fail
  go_end0
  exact MustP.ok _ _ _
 have hc:(c != 0)=true:=by simpa using h
 have hc2:(c==0)=false:=by simpa using h
 rw [hc2]
 go_enter Tryz.func83,Tryz.ntmps83
 go_wp2_with fail
 exact⟨rfl,MustP.bad _ _ _⟩
theorem so_must (rb:Nat) (line:Int) (b:Bool) (c:Int) (w:World) (hc:c≠0) (h2:w.cell? ⟨rb,2,none⟩=some (.int .i64 line)) :
  Calls Tryz.prog 46 #[.pointer (some ⟨rb,0,none⟩),.bool b,.int .i64 c] w (MustP b line c w):=by
 have hc2:(c==0)=false:=by simpa using hc
 have HN:=hid (so_need rb line c w h2)
 rw [hc2] at HN
 clear hc hc2
 cases b
 ·go_enter Tryz.func46,Tryz.ntmps46
  go_wp2_with fail
  refine HN.out.mono ?_
  rintro e w' ⟨⟨h,-⟩ | ⟨-,rfl⟩,rfl⟩
  ·cases h
  exact⟨rfl,MustP.bad _ _ _⟩
 go_enter Tryz.func46,Tryz.ntmps46
 go_wp2_with fail
 go_end0
 exact MustP.ok _ _ _
def numR_ (s:ByteArray) (most:Int):Except Int Int:=if numErr s.data.toList most≠0 then .error 13 else .ok (numVal s.data.toList most)
theorem numErr_13 (l:List UInt8) (m:Int):numErr l m=0∨numErr l m=13:=by unfold numErr;split<;>simp
theorem so_rdNumber (rb:Nat) (line:Int) (s:ByteArray) (most:Int) (w:World) (hs:s.size≤maxLen) (h1:-9223372036854775808≤most) (h3:most≤9223372036854775807) (h2:w.cell? ⟨rb,2,none⟩=some (.int .i64 line)) :
  Calls Tryz.prog 114 #[.pointer (some ⟨rb,0,none⟩),.string s,.int .i64 most] w (OutW line w (Value.int .i64) (numR_ s most)):=by
 have HN:=hid (Number_any s most w hs h1 h3)
 unfold numR_
 rcases numErr_13 s.data.toList most with h | h
 all_goals
  rw [h]
  have HE:=hid h
  clear h
  go_enter Tryz.func114,Tryz.ntmps114
  go_wp2_with fail
  refine HN.out.mono ?_
  rintro e w' ⟨he,rfl⟩
  rw [NumRet,HE.out] at he
  subst he
  go_wp2_with fail
  refine (so_need rb line _ _ h2).mono ?_
  first
   | (rintro e w' ⟨⟨-,rfl⟩ | ⟨h,-⟩,rfl⟩
      ·go_wp2_with fail
       go_ret
       exact⟨Below.refl _ _,rfl⟩
      exact absurd h (by decide))
   | (rintro e w' ⟨⟨h,-⟩ | ⟨-,rfl⟩,rfl⟩
      ·exact absurd h (by decide)
      exact⟨rfl,Below.refl _ _,rfl⟩)
theorem so_plainR (rb:Nat) (line:Int) (s:ByteArray) (w:World) (hs:s.size≤140737488355328) (h2:w.cell? ⟨rb,2,none⟩=some (.int .i64 line)) :
  Calls Tryz.prog 111 #[.pointer (some ⟨rb,0,none⟩),.string s] w (MustP (fitAll s) line 21 w):=by
 go_enter Tryz.func111,Tryz.ntmps111
 go_wp2_with fail
 go_loop [4,7] (fun _ i=>∃k:Nat,k≤s.size∧i=.int .i64 k∧Hid ((s.data.toList.take k).all fitB=true)) (fun _ i=>s.size - (intOf i).toNat)
 case atStart=>exact⟨0,Nat.zero_le _,rfl,hid rfl⟩
 case round =>
 obtain⟨k,hk,rfl,HT⟩:=hrel
 by_cases hlt:k < s.size
 ·cases hf:fitB s[k]
  ·have HN:=hid (all_no s k hlt hf)
   have HF:=hid hf
   clear hf
   go_wp2_with (first | (go_at_call 85;refine (Valid_one s k hlt _).mono ?_;rw [HF.out];rintro e w' ⟨rfl,rfl⟩))
   refine (so_must rb line _ _ _ (by decide) h2).mono ?_
   rintro e w' ⟨⟨h,-⟩ | ⟨-,rfl⟩,rfl⟩
   ·cases h
   exact⟨rfl,.inr ⟨HN.out,rfl⟩,rfl⟩
  have HN:=hid (all_take s k hlt hf HT.out)
  have HF:=hid hf
  clear hf
  go_wp2_with (first | (go_at_call 85;refine (Valid_one s k hlt _).mono ?_;rw [HF.out];rintro e w' ⟨rfl,rfl⟩))
  refine (so_must rb line _ _ _ (by decide) h2).mono ?_
  rintro e w' ⟨⟨-,rfl⟩ | ⟨h,-⟩,rfl⟩
  ·go_wp2_with fail
   go_round
   case rel=>exact⟨k+1,by omega,by go_num,HN⟩
   case measure=>simp [intOf];omega
  cases h
 obtain rfl:k=s.size:=by omega
 have HN:=hid (all_full s HT.out)
 go_wp2_with fail
 go_end0
 exact⟨.inl ⟨HN.out,rfl⟩,rfl⟩
def fitR (s:ByteArray):Except Int ByteArray:=if fitE s≠0 then .error (fitE s) else .ok s
theorem so_fitR (rb:Nat) (line:Int) (s:ByteArray) (w:World) (hs:s.size≤140737488355328) (h2:w.cell? ⟨rb,2,none⟩=some (.int .i64 line)) :
  Calls Tryz.prog 151 #[.pointer (some ⟨rb,0,none⟩),.string s] w (OutW line w Value.string (fitR s)):=by
 cases hf:fitAll s
 ·have HR:Hid (fitR s=.error 21):=hid (by unfold fitR fitE;rw [hf];simp)
  have HF:=hid hf
  clear hf
  go_enter Tryz.func151,Tryz.ntmps151
  go_wp2_with fail
  refine (so_plainR rb line s _ hs h2).mono ?_
  rw [HF.out]
  rintro e w' ⟨⟨h,-⟩ | ⟨-,rfl⟩,rfl⟩
  ·cases h
  rw [HR.out];exact⟨rfl,Below.refl _ _,rfl⟩
 by_cases h0:s.size=0
 ·have hse:s=⟨#[]⟩:=by apply ByteArray.ext;exact Array.eq_empty_of_size_eq_zero h0
  subst hse
  have HR:Hid (fitR ⟨#[]⟩=.error 21):=hid (by rfl)
  have HF:=hid hf
  clear hf
  go_enter Tryz.func151,Tryz.ntmps151
  go_wp2_with fail
  refine (so_plainR rb line _ _ hs h2).mono ?_
  rw [HF.out]
  rintro e w' ⟨⟨-,rfl⟩ | ⟨h,-⟩,rfl⟩
  ·go_wp2_with fail
   refine (so_must rb line _ _ _ (by decide) h2).mono ?_
   rintro e w' ⟨⟨h,-⟩ | ⟨-,rfl⟩,rfl⟩
   ·cases h
   rw [HR.out];exact⟨rfl,Below.refl _ _,rfl⟩
  cases h
 have hne:=notEmpty s (by omega)
 by_cases h3:s.size≤32
 ·have HR:Hid (fitR s=.ok s):=hid (by unfold fitR fitE;rw [hf,if_neg (show ¬(s.size=0∨true=false) from fun h=>h.elim h0 (fun h=>by cases h)),if_neg (show ¬32 < s.size by omega)];rfl)
  have HF:=hid hf
  clear hf
  go_enter Tryz.func151,Tryz.ntmps151
  go_wp2_with fail
  refine (so_plainR rb line s _ hs h2).mono ?_
  rw [HF.out]
  rintro e w' ⟨⟨-,rfl⟩ | ⟨h,-⟩,rfl⟩
  ·go_wp2_with fail
   refine (so_must rb line _ _ _ (by decide) h2).mono ?_
   rintro e w' ⟨⟨-,rfl⟩ | ⟨h,-⟩,rfl⟩
   ·go_wp2_with fail
    refine (so_must rb line _ _ _ (by decide) h2).mono ?_
    rintro e w' ⟨⟨-,rfl⟩ | ⟨h,-⟩,rfl⟩
    ·go_wp2_with fail
     go_ret
     rw [HR.out];exact⟨Below.refl _ _,rfl⟩
    exact absurd h (by simp;omega)
   exact absurd h (by simp)
  cases h
 have HR:Hid (fitR s=.error 22):=hid (by unfold fitR fitE;rw [hf,if_neg (show ¬(s.size=0∨true=false) from fun h=>h.elim h0 (fun h=>by cases h)),if_pos (show 32 < s.size by omega)];rfl)
 have HF:=hid hf
 clear hf
 go_enter Tryz.func151,Tryz.ntmps151
 go_wp2_with fail
 refine (so_plainR rb line s _ hs h2).mono ?_
 rw [HF.out]
 rintro e w' ⟨⟨-,rfl⟩ | ⟨h,-⟩,rfl⟩
 ·go_wp2_with fail
  refine (so_must rb line _ _ _ (by decide) h2).mono ?_
  rintro e w' ⟨⟨-,rfl⟩ | ⟨h,-⟩,rfl⟩
  ·go_wp2_with fail
   refine (so_must rb line _ _ _ (by decide) h2).mono ?_
   rintro e w' ⟨⟨h,-⟩ | ⟨-,rfl⟩,rfl⟩
   ·exact absurd h (by simp;omega)
   rw [HR.out];exact⟨rfl,Below.refl _ _,rfl⟩
  exact absurd h (by simp)
 cases h
def markB (b:UInt8):Bool:=decide (b.toNat=92∨b.toNat=47∨b.toNat=35)
theorem so_marked (b:UInt8) (w:World):Calls Tryz.prog 120 #[.int .u8 b.toNat] w fun e w'=>e=.returned (.bool (markB b))∧w=w':=by
 by_cases h1:b.toNat=92
 ·have e1:((b.toNat:Int)==92)=true:=by rw [h1];rfl
  have HR:Hid (markB b=true):=hid (by unfold markB;simp [h1])
  clear h1
  go_enter Tryz.func120,Tryz.ntmps120
  go_wp2_with fail
  go_ret
  exact⟨ret_bool HR.out.symm,rfl⟩
 have e1:((b.toNat:Int)==92)=false:=by rw [beq_eq_false_iff_ne];omega
 by_cases h2:b.toNat=47
 ·have e2:((b.toNat:Int)==47)=true:=by rw [h2];rfl
  have HR:Hid (markB b=true):=hid (by unfold markB;simp [h2])
  clear h1 h2
  go_enter Tryz.func120,Tryz.ntmps120
  go_wp2_with fail
  go_ret
  exact⟨ret_bool HR.out.symm,rfl⟩
 have e2:((b.toNat:Int)==47)=false:=by rw [beq_eq_false_iff_ne];omega
 by_cases h3:b.toNat=35
 ·have e3:((b.toNat:Int)==35)=true:=by rw [h3];rfl
  have HR:Hid (markB b=true):=hid (by unfold markB;simp [h3])
  clear h1 h2 h3
  go_enter Tryz.func120,Tryz.ntmps120
  go_wp2_with fail
  go_ret
  exact⟨ret_bool HR.out.symm,rfl⟩
 have e3:((b.toNat:Int)==35)=false:=by rw [beq_eq_false_iff_ne];omega
 have HR:Hid (markB b=false):=hid (by unfold markB;simp [h1,h2,h3])
 clear h1 h2 h3
 go_enter Tryz.func120,Tryz.ntmps120
 go_wp2_with fail
 go_ret
 exact⟨ret_bool HR.out.symm,rfl⟩
def wordV (r:List UInt8×List UInt8×Bool×Int):Value:=.tuple #[.string (mkS r.1),.string (mkS r.2.1),.bool r.2.2.1,.int .i64 r.2.2.2]
def WSt (s:ByteArray) (k:Nat) (acc:List UInt8):Prop:=wgo acc (s.data.toList.drop k)=wordR s.data.toList∧acc.length≤k
theorem WSt.start (s:ByteArray):WSt s 0 []:=⟨rfl,Nat.le_refl _⟩
theorem WSt.slash {s:ByteArray} {k:Nat} {acc:List UInt8} (h:WSt s k acc) (hk:k < s.size) (hb:s[k].toNat=47):wordR s.data.toList=(acc,(s.extract (k+1) s.size).data.toList,true,0):=by
 rw [←h.1,drop_cons s k hk,wgo_slash _ _ _ hb,Lib.extract_to_end]
theorem WSt.more {s:ByteArray} {k:Nat} {acc:List UInt8} (h:WSt s k acc) (hk:k < s.size) (hb:s[k].toNat≠47) (hb':s[k].toNat≠92):WSt s (k+1) (acc++[s[k]]) :=
 ⟨by rw [←h.1,drop_cons s k hk,wgo_more _ _ _ hb hb'],by have:=h.2;simp;omega⟩
theorem WSt.last {s:ByteArray} {k:Nat} {acc:List UInt8} (h:WSt s k acc) (hk:k < s.size) (hb:s[k].toNat=92) (he:¬k+1 < s.size):wordR s.data.toList=([],[],false,20):=by
 rw [←h.1,drop_cons s k hk,List.drop_of_length_le (by simp;omega),wgo_end _ _ hb]
theorem WSt.bad {s:ByteArray} {k:Nat} {acc:List UInt8} (h:WSt s k acc) (hk:k < s.size) (hb:s[k].toNat=92) (he:k+1 < s.size) (hm:markB s[k+1]=false):wordR s.data.toList=([],[],false,20):=by
 rw [←h.1,drop_cons s k hk,drop_cons s (k+1) he,wgo_bad _ _ _ _ hb (by unfold markB at hm;simpa using hm)]
theorem WSt.esc {s:ByteArray} {k:Nat} {acc:List UInt8} (h:WSt s k acc) (hk:k < s.size) (hb:s[k].toNat=92) (he:k+1 < s.size) (hm:markB s[k+1]=true):WSt s (k+1+1) (acc++[s[k+1]]) :=
 ⟨by rw [←h.1,drop_cons s k hk,drop_cons s (k+1) he,wgo_esc _ _ _ _ hb (by unfold markB at hm;simpa using hm)],by have:=h.2;simp;omega⟩
theorem WSt.done {s:ByteArray} {acc:List UInt8} (h:WSt s s.size acc):wordR s.data.toList=(acc,[],false,0):=by
 rw [←h.1,drop_all,wgo_nil]
theorem so_wread (s:ByteArray) (w:World) (hs:s.size≤1048576) :
  Calls Tryz.prog 84 #[.string s] w fun e w'=>e=.returned (wordV (wordR s.data.toList))∧Below w.heap.size w w':=by
 go_enter Tryz.func84,Tryz.ntmps84
 go_wp2_with fail
 go_loopw [7] (fun i W=>∃(k:Nat) (acc:List UInt8),k≤s.size∧i=.int .i64 k∧Hid (WSt s k acc)∧Hid (IsB w.heap.size w.heap.size (byteCells acc) W)∧Hid (Below w.heap.size w W)∧w.heap.size≤W.heap.size) (fun i _=>s.size - (intOf i).toNat)
 case atStart=>exact⟨0,[],Nat.zero_le _,rfl,WSt.start s,fresh_isB w,(Below.refl _ _).alloc (Nat.le_refl _) _,by simp⟩
 case round =>
 obtain⟨k,acc,hk,rfl,HW,HI,HB,hsz⟩:=hrel
 have HL:=hid HW.out.2
 by_cases hlt:k < s.size
 ·by_cases h1:s[k].toNat=47
  ·have e1:((s[k].toNat:Int)==47)=true:=by rw [h1];rfl
   have HR:=hid (HW.out.slash hlt h1)
   have hsum:IntKind.i64.wrap ((k:Int)+1)=(k:Int)+1:=by rw [IntKind.wrap_i64];omega
   clear h1
   go_wp2_with fail
   have HI2:=hid (show IsB w.heap.size w.heap.size (byteCells acc) wr.drew from HI.out)
   go_region_with (go_at_call 119;refine (builderString_any _ _ acc _ HI2.out hsz).mono ?_;rintro e w' ⟨rfl,h2⟩;have HO:=hid (HB.out.drew.trans h2);clear h2)
   all_goals
    go_wp2_with fail
    refine bodyPost_ret (v:=.tuple #[.string ⟨acc.toArray⟩,.string (s.extract (k+1) s.size),.bool true,.int .i64 0]) (by simp [results,Tryz.results84,go_sem]) rfl ?_
    rw [HR.out]
    exact⟨rfl,HO.out⟩
  have e1:((s[k].toNat:Int)==47)=false:=by rw [beq_eq_false_iff_ne];omega
  by_cases h2:s[k].toNat=92
  ·have e2:((s[k].toNat:Int)==92)=true:=by rw [h2];rfl
   by_cases h3:k+1 < s.size
   ·have e3:(((k:Int)+1)==(s.size:Int))=false:=by rw [beq_eq_false_iff_ne];omega
    cases hm:markB s[k+1]
    ·have HR:=hid (HW.out.bad hlt h2 h3 hm)
     have HM:=hid hm
     clear h1 h2 hm
     go_wp2_with (first | (go_at_call 120;refine (so_marked _ _).mono ?_;rw [HM.out];rintro e w' ⟨rfl,rfl⟩))
     refine bodyPost_ret (v:=wordV ([],[],false,20)) (by simp [results,Tryz.results84,go_sem];rfl) rfl ?_
     rw [HR.out]
     exact⟨rfl,HB.out⟩
    have HR:=hid (HW.out.esc hlt h2 h3 hm)
    have HM:=hid hm
    clear h1 h2 hm
    go_wp2_with (first
     | (go_at_call 120;refine (so_marked _ _).mono ?_;rw [HM.out];rintro e w' ⟨rfl,rfl⟩)
     | (go_at_call 121;refine (writeByte_any _ _ _ _ _ HI.out (by have:=HL.out;simp [byteCells];omega) hsz).mono ?_;rintro e w' ⟨rfl,h1,h2⟩;have HO:=hid (show IsB w.heap.size w.heap.size (byteCells (acc++[s[k+1]])) w' by rw [←bytes_snoc];exact h1.is);have HB2:=hid (HB.out.trans h2);clear h1 h2))
    go_roundw
    case rel=>exact⟨k+1+1,_,by omega,by go_num,HR,HO,HB2,HB2.out.size⟩
    case measure=>simp [intOf];omega
   have e3:(((k:Int)+1)==(s.size:Int))=true:=by rw [beq_iff_eq];omega
   have HR:=hid (HW.out.last hlt h2 h3)
   clear h1 h2
   go_wp2_with fail
   refine bodyPost_ret (v:=wordV ([],[],false,20)) (by simp [results,Tryz.results84,go_sem];rfl) rfl ?_
   rw [HR.out]
   exact⟨rfl,HB.out⟩
  have e2:((s[k].toNat:Int)==92)=false:=by rw [beq_eq_false_iff_ne];omega
  have HR:=hid (HW.out.more hlt h1 h2)
  clear h1 h2
  go_wp2_with (first
   | (go_at_call 121;refine (writeByte_any _ _ _ _ _ HI.out (by have:=HL.out;simp [byteCells];omega) hsz).mono ?_;rintro e w' ⟨rfl,h1,h2⟩;have HO:=hid (show IsB w.heap.size w.heap.size (byteCells (acc++[s[k]])) w' by rw [←bytes_snoc];exact h1.is);have HB2:=hid (HB.out.trans h2);clear h1 h2))
  go_roundw
  case rel=>exact⟨k+1,_,by omega,by go_num,HR,HO,HB2,HB2.out.size⟩
  case measure=>simp [intOf];omega
 obtain rfl:k=s.size:=by omega
 have HR:=hid HW.out.done
 go_wp2_with (first
  | (go_at_call 119;refine (builderString_any _ _ acc _ HI.out hsz).mono ?_;rintro e w' ⟨rfl,h2⟩;have HO:=hid (HB.out.trans h2);clear h2))
 refine bodyPost_ret (v:=wordV (acc,[],false,0)) (by simp [results,Tryz.results84,go_sem];rfl) rfl ?_
 rw [HR.out]
 exact⟨rfl,HO.out⟩
theorem wgo_len:∀(n:Nat) (acc l:List UInt8),l.length≤n→(wgo acc l).1.length≤acc.length+l.length∧(wgo acc l).2.1.length≤l.length
 | n,acc,[],_=>by rw [wgo_nil];simp
 | 0,acc,b::l,h=>by simp at h
 | n+1,acc,b::l,h=>by
   have hl:l.length≤n:=by simp at h;exact h
   by_cases h1:b.toNat=47
   ·rw [wgo_slash _ _ _ h1];simp
   ·by_cases h2:b.toNat=92
    ·rcases l with _ | ⟨c,l⟩
     ·rw [wgo_end _ _ h2];simp
     ·by_cases h3:c.toNat=92∨c.toNat=47∨c.toNat=35
      ·rw [wgo_esc _ _ _ _ h2 h3]
       have:=wgo_len n (acc++[c]) l (by simp at hl;omega)
       simp at this ⊢;omega
      ·rw [wgo_bad _ _ _ _ h2 h3];simp
    ·rw [wgo_more _ _ _ h1 h2]
     have:=wgo_len n (acc++[b]) l hl
     simp at this ⊢;omega
theorem wordR_len (l:List UInt8):(wordR l).1.length≤l.length∧(wordR l).2.1.length≤l.length:=by
 have:=wgo_len l.length [] l (Nat.le_refl _)
 simpa [wordR] using this
theorem str_ne (s:ByteArray) (l:List UInt8) (h:s≠⟨l.toArray⟩):(s.toList==l)=false:=by
 rw [beq_eq_false_iff_ne]
 intro e
 exact h ((mk_eq_iff l s).2 e.symm).symm
theorem line_keep {rb:Nat} {line:Int} {w w':World} (h:w.cell? ⟨rb,2,none⟩=some (.int .i64 line)) (hb:Below w.heap.size w w'):w'.cell? ⟨rb,2,none⟩=some (.int .i64 line) :=
 (hb.cell (block_lt_of_cell? w _ h)).trans h
theorem so_piece (rb:Nat) (line:Int) (s:ByteArray) (w:World) (hs:s.size≤1048576) (h2:w.cell? ⟨rb,2,none⟩=some (.int .i64 line)) :
  Calls Tryz.prog 116 #[.pointer (some ⟨rb,0,none⟩),.string s] w (OutW line w Value.string (pieceR false s)):=by
 have hw:=so_wread s w hs
 have hl:=(wordR_len s.data.toList).1
 rw [len_toList] at hl
 unfold pieceR
 rw [if_neg (by simp)]
 obtain⟨⟨W,R,C,e⟩,hR⟩:∃r,wordR s.data.toList=r:=⟨_,rfl⟩
 rw [hR] at hw hl ⊢
 have HW:=hid hw
 have H2:=hid h2
 clear hw hR h2
 unfold wordV at HW
 dsimp only at HW hl ⊢
 by_cases he:e=0
 ·subst he
  cases C
  ·rw [if_neg (by simp),if_neg (by simp)]
   have HF:Hid (∀W',Below w.heap.size w W'→Calls Tryz.prog 151 #[.pointer (some ⟨rb,0,none⟩),.string (mkS W)] W' (OutW line W' Value.string (fitR (mkS W)))):=hid (fun W' hb=>so_fitR rb line (mkS W) W' (by rw [mkS_size];omega) (line_keep H2.out hb))
   have HR:Hid (fitR (mkS W)=if fitE (mkS W)≠0 then .error (fitE (mkS W)) else .ok (mkS W)):=hid rfl
   rw [←HR.out]
   go_enter Tryz.func116,Tryz.ntmps116
   go_wp2_with fail
   refine HW.out.mono ?_
   rintro e w1 ⟨rfl,hb1⟩
   have HB1:=hid hb1
   clear hb1
   go_wp2_with fail
   refine (so_need rb line 0 _ (line_keep H2.out HB1.out)).mono ?_
   rintro e w' ⟨⟨-,rfl⟩ | ⟨h,-⟩,rfl⟩
   ·go_wp2_with fail
    refine (so_must rb line _ _ _ (by decide) (line_keep H2.out HB1.out)).mono ?_
    rintro e w' ⟨⟨-,rfl⟩ | ⟨h,-⟩,rfl⟩
    ·go_wp2_with fail
     refine (HF.out _ HB1.out).mono ?_
     cases hq:fitR (mkS W)
     ·rintro e w2 ⟨hb2,rfl⟩
      exact⟨rfl,HB1.out.trans (hb2.mono HB1.out.size),rfl⟩
     rintro e w2 ⟨hb2,rfl⟩
     have HB2:=hid (HB1.out.trans (hb2.mono HB1.out.size))
     have HQ:=hid hq
     clear hb2 hq
     go_wp2_with fail
     go_ret
     exact⟨HB2.out,by rw [HQ.out];rfl⟩
    exact absurd h (by decide)
   exact absurd h (by decide)
  rw [if_neg (by simp),if_pos rfl]
  go_enter Tryz.func116,Tryz.ntmps116
  go_wp2_with fail
  refine HW.out.mono ?_
  rintro e w1 ⟨rfl,hb1⟩
  have HB1:=hid hb1
  clear hb1
  go_wp2_with fail
  refine (so_need rb line 0 _ (line_keep H2.out HB1.out)).mono ?_
  rintro e w' ⟨⟨-,rfl⟩ | ⟨h,-⟩,rfl⟩
  ·go_wp2_with fail
   refine (so_must rb line _ _ _ (by decide) (line_keep H2.out HB1.out)).mono ?_
   rintro e w' ⟨⟨h,-⟩ | ⟨-,rfl⟩,rfl⟩
   ·exact absurd h (by decide)
   exact⟨rfl,HB1.out,rfl⟩
  exact absurd h (by decide)
 have he2:(e==0)=false:=by simpa using he
 rw [if_pos he]
 have HE:=hid he2
 clear he he2
 go_enter Tryz.func116,Tryz.ntmps116
 go_wp2_with fail
 refine HW.out.mono ?_
 rintro e' w1 ⟨rfl,hb1⟩
 have HB1:=hid hb1
 clear hb1
 go_wp2_with fail
 refine (so_need rb line e _ (line_keep H2.out HB1.out)).mono ?_
 rw [HE.out]
 rintro e' w' ⟨⟨h,-⟩ | ⟨-,rfl⟩,rfl⟩
 ·cases h
 exact⟨rfl,HB1.out,rfl⟩
theorem so_pieceOrNone (rb:Nat) (line:Int) (s:ByteArray) (w:World) (hs:s.size≤1048576) (h2:w.cell? ⟨rb,2,none⟩=some (.int .i64 line)) :
  Calls Tryz.prog 117 #[.pointer (some ⟨rb,0,none⟩),.string s] w (OutW line w Value.string (pieceR true s)):=by
 by_cases h:s=⟨#[48]⟩
 ·have HR:Hid (pieceR true s=.ok ⟨#[]⟩):=hid (by unfold pieceR;rw [if_pos ⟨rfl,h⟩])
  subst h
  go_enter Tryz.func117,Tryz.ntmps117
  go_wp2_with fail
  go_ret
  exact⟨Below.refl _ _,by rw [HR.out];rfl⟩
 have HR:Hid (pieceR true s=pieceR false s):=hid (by unfold pieceR;rw [if_neg (fun hh=>h hh.2),if_neg (by simp)])
 have HP:=hid (so_piece rb line s w hs h2)
 have hz:=str_ne s [48] h
 rw [HR.out]
 clear h2 h
 go_enter Tryz.func117,Tryz.ntmps117
 go_wp2_with fail
 refine HP.out.mono ?_
 cases hq:pieceR false s
 ·rintro e w2 ⟨hb2,rfl⟩
  exact⟨rfl,hb2,rfl⟩
 rintro e w2 ⟨hb2,rfl⟩
 have HB2:=hid hb2
 have HQ:=hid hq
 clear hb2 hq
 go_wp2_with fail
 go_ret
 exact⟨HB2.out,by rw [HQ.out];rfl⟩
theorem oneF_pos (kind:Int) (l:List UInt8) (h:(oneF kind l).2=0):(oneF kind l).1≠0:=by
 unfold oneF at h ⊢
 split at h
 ·split at h
  ·cases h
  rename_i h1 h2;rw [if_pos h1,if_neg h2];exact h2
 cases h
theorem so_fresh (w0:World) (L:List Nat) (i:Ids) (E:Int) (kh k:Nat) (S:Sx) (s:ByteArray) (w:World) (h:RM w0 w L i E kh k S) (hs:s.size≤1048576) :
  Calls Tryz.prog 113 #[.pointer (some ⟨i.rb,0,none⟩),.string s] w (OutW S.line w (Value.int .u16) (freshR S.fl s)):=by
 obtain⟨hbd,v,hm⟩:=h
 have hO:=so_One S.fl.kind s w (by unfold maxLen;omega)
 obtain⟨b0,b1⟩:=oneF_bd S.fl.kind s.data.toList
 have hz:=oneF_pos S.fl.kind s.data.toList
 unfold freshR
 obtain⟨⟨f,e⟩,hF⟩:∃r,oneF S.fl.kind s.data.toList=r:=⟨_,rfl⟩
 rw [hF] at hO b0 b1 hz ⊢
 dsimp only at hO b0 b1 hz ⊢
 have HO:=hid hO
 have HM:=hid hm
 have c0:=hm.r0
 have g0:=hm.f0
 clear hO hF hm hbd
 by_cases he:e=0
 ·subst he
  have hf0:=hz rfl
  rw [if_neg (by simp)]
  clear hz
  have HT:Hid (takenF S.fl f=if definedB S.fl f=true then 1 else 0):=hid (by unfold takenF;rw [if_neg hf0])
  cases hq:definedB S.fl f
  ·have HQ:=hid hq
   clear hq hf0
   rw [if_neg (by simp)]
   go_enter Tryz.func113,Tryz.ntmps113
   go_wp2_with fail
   refine HO.out.mono ?_
   rintro e w1 ⟨rfl,n,hw⟩
   have HB:Hid (Below w.heap.size w w1):=hid (by rw [hw];exact below_drewN (Below.refl _ _) n)
   clear hw
   go_wp2_with fail
   refine (so_need i.rb S.line 0 _ (HM.out.below HB.out).r2).mono ?_
   rintro e w' ⟨⟨-,rfl⟩ | ⟨h,-⟩,rfl⟩
   ·have c5:=(HM.out.below HB.out).r5
    have hlk:=(HM.out.below HB.out).taken.look f ⟨b0,b1⟩
    rw [HT.out,HQ.out,if_neg (by simp)] at hlk
    go_wp2_with fail
    refine (so_must i.rb S.line _ _ _ (by decide) (HM.out.below HB.out).r2).mono ?_
    rintro e w' ⟨⟨-,rfl⟩ | ⟨h,-⟩,rfl⟩
    ·go_wp2_with fail
     go_ret
     exact⟨HB.out,rfl⟩
    exact absurd h (by decide)
   exact absurd h (by decide)
  have HQ:=hid hq
  clear hq hf0
  rw [if_pos rfl]
  go_enter Tryz.func113,Tryz.ntmps113
  go_wp2_with fail
  refine HO.out.mono ?_
  rintro e w1 ⟨rfl,n,hw⟩
  have HB:Hid (Below w.heap.size w w1):=hid (by rw [hw];exact below_drewN (Below.refl _ _) n)
  clear hw
  go_wp2_with fail
  refine (so_need i.rb S.line 0 _ (HM.out.below HB.out).r2).mono ?_
  rintro e w' ⟨⟨-,rfl⟩ | ⟨h,-⟩,rfl⟩
  ·have c5:=(HM.out.below HB.out).r5
   have hlk:=(HM.out.below HB.out).taken.look f ⟨b0,b1⟩
   rw [HT.out,HQ.out,if_pos rfl] at hlk
   go_wp2_with fail
   refine (so_must i.rb S.line _ _ _ (by decide) (HM.out.below HB.out).r2).mono ?_
   rintro e w' ⟨⟨h,-⟩ | ⟨-,rfl⟩,rfl⟩
   ·exact absurd h (by decide)
   exact⟨rfl,HB.out,rfl⟩
  exact absurd h (by decide)
 have he2:(e==0)=false:=by simpa using he
 rw [if_pos he]
 have HE:=hid he2
 clear he he2 hz
 go_enter Tryz.func113,Tryz.ntmps113
 go_wp2_with fail
 refine HO.out.mono ?_
 rintro e' w1 ⟨rfl,n,hw⟩
 have HB:Hid (Below w.heap.size w w1):=hid (by rw [hw];exact below_drewN (Below.refl _ _) n)
 clear hw
 go_wp2_with fail
 refine (so_need i.rb S.line e _ (HM.out.below HB.out).r2).mono ?_
 rw [HE.out]
 rintro e' w' ⟨⟨h,-⟩ | ⟨-,rfl⟩,rfl⟩
 ·cases h
 exact⟨rfl,HB.out,rfl⟩
theorem rows_split {w0:World} {v:Value} {l:Int} {row:List ByteArray} {rest:List Row} (h:RowsM w0 v ((l,row)::rest)) :
  ∃g o cap fv,v=.slice (some ⟨g,o,none⟩) (rest.length+1) cap∧rest.length+1≤cap∧w0.cell? ⟨g,o,none⟩=some (.int .i64 l)∧w0.cell? ⟨g,o+1,none⟩=some fv∧Rd w0 1 fv row.length (strV row) ∧
   RowsM w0 (.slice (some ⟨g,o+2,none⟩) rest.length (cap - 1)) rest∧(rest.length=0→∀p c,RowsM w0 (.slice p 0 c) rest):=by
 obtain⟨rs,ha,hr,hd⟩:=h
 rcases rs with _ | ⟨r0,rs⟩
 ·simp [rowAbs] at ha
 have ha2:(r0.1,r0.2.2)::rowAbs rs=(l,row)::rest:=by simpa [rowAbs] using ha
 injection ha2 with h1 h2
 injection h1 with h3 h4
 subst h3 h4
 have hlen:rest.length=rs.length:=by rw [←h2];simp [rowAbs]
 obtain⟨hl,A,cap,rfl,hcap,hc⟩:=hr
 obtain⟨g,o,rfl,hc2⟩:=hc.resolve_left (by simp)
 have hcs:rowCells (r0::rs)=.int .i64 r0.1::r0.2.1::rowCells rs:=by simp [rowCells]
 rw [hcs] at hc2
 refine⟨g,o,cap,r0.2.1,by rw [hlen];rfl,by rw [hlen];exact hcap,by simpa using hc2 0 _ rfl,by simpa using hc2 1 _ rfl,(hd r0 (by simp)).rd,⟨rs,h2,⟨?_,some ⟨g,o+2,none⟩,cap - 1,by rw [hlen],by simp at hcap;omega,.inr ⟨g,o+2,rfl,fun j u hj=>?_⟩⟩,fun r hr=>hd r (by simp [hr])⟩,fun h0 p c=>⟨[],by rw [←h2,List.eq_nil_of_length_eq_zero (hlen.symm.trans h0)],⟨rfl,p,c,rfl,Nat.zero_le _,.inl rfl⟩,fun r hr=>by cases hr⟩⟩
 ·have:(rowCells (r0::rs)).length=(r0::rs).length*2:=hl
  rw [hcs] at this
  simp at this ⊢
  omega
 have:=hc2 (j+2) u (by simpa using hj)
 rwa [show o+(j+2)=o+2+j by omega] at this
theorem Bd.take {kh k:Nat} {S:Sx} {l:Int} {row:List ByteArray} {rest:List Row} (h:Bd kh k S) (hr:S.rows=(l,row)::rest):Bd (kh+1) (k+1) { S with rows:=rest,line:=l }:=by
 have hlen:S.rows.length=rest.length+1:=by rw [hr];rfl
 have h1:=h.heads
 have h2:=h.reps
 have h3:=h.als
 have h4:=h.cls
 have h5:=h.rls
 have hrow:=h.row (l,row) (by rw [hr];simp)
 rw [hlen] at h1 h2 h3 h4 h5
 exact⟨fun r hrr=>h.row r (by rw [hr];simp [hrr]),by show S.heads.length+rest.length+(kh+1)≤65536;omega,h.headS,by show S.fl.reps.length+rest.length+(k+1)≤65536;omega,by show S.fl.als.length+rest.length+(k+1)≤65536;omega,by show S.fl.cls.length+rest.length+(k+1)≤65536;omega,by show S.fl.rls.length+rest.length+(k+1)≤65536;omega,h.flags,h.sets,h.nexts,h.kind,h.sp,⟨hrow.2.2.2.1,by have:=hrow.2.2.2.2;show l≤_;omega⟩⟩
theorem so_take (w0:World) (L:List Nat) (i:Ids) (E:Int) (kh k:Nat) (S:Sx) (l:Int) (row:List ByteArray) (rest:List Row) (w:World) (h:RM w0 w L i E kh k S) (hr:S.rows=(l,row)::rest) :
  Calls Tryz.prog 45 #[.pointer (some ⟨i.rb,0,none⟩)] w fun e w'=>∃fv,e=.returned fv∧Rd w0 1 fv row.length (strV row)∧RM w0 w' L i E (kh+1) (k+1) { S with rows:=rest,line:=l }∧Go2 L w L w':=by
 obtain⟨hbd,v,hm⟩:=h
 have hrows:=hm.rows
 rw [hr] at hrows
 obtain⟨g,o,cap,fv,hv,hcap,hc0,hc1,hfv,hr1,hr2⟩:=rows_split hrows
 have hlen:rest.length+1≤65536:=by have:=hbd.heads;rw [hr] at this;simp at this;omega
 have d0:=(hm.base.cell (block_lt_of_cell? w0 _ hc0)).trans hc0
 have d1:=(hm.base.cell (block_lt_of_cell? w0 _ hc1)).trans hc1
 have c1:=hm.r1
 rw [hv] at c1
 have c2:=hm.r2
 have z1:=hm.rz 1
 have z2:=hm.rz 2
 have hlt:i.rb < w.heap.size:=(hm.hl _ hm.rbL).2
 have hne:¬i.rb=w.heap.size:=by omega
 have hne2:¬w.heap.size=i.rb:=by omega
 have HM:=hid hm
 have HBD:=hid (hbd.take hr)
 have HR1:=hid hr1
 have HR2:=hid hr2
 have HF:=hid hfv
 obtain⟨-,A,cp,rfl,-,-⟩:=hfv
 clear hm hbd hr1 hr2 hrows hr hc0 hc1 hv
 have key:∀u,RowsM w0 u rest→RM w0 (((w.setCell ⟨i.rb,1,none⟩ u).setCell ⟨i.rb,2,none⟩ (.int .i64 l)).alloc (.cells #[.int .i64 l,.slice A row.length cp] 133)) L i E (kh+1) (k+1) { S with rows:=rest,line:=l } ∧
   Go2 L w L (((w.setCell ⟨i.rb,1,none⟩ u).setCell ⟨i.rb,2,none⟩ (.int .i64 l)).alloc (.cells #[.int .i64 l,.slice A row.length cp] 133)):=by
  intro u hu
  have hb:=(Below.refl _ ((w.setCell ⟨i.rb,1,none⟩ u).setCell ⟨i.rb,2,none⟩ (.int .i64 l))).alloc (Nat.le_refl _) (.cells #[.int .i64 l,.slice A row.length cp] 133)
  exact⟨⟨HBD.out,_,((HM.out.setRows u rest hu).setLine l).below hb⟩,⟨(((Kept.refl L w).set _ _ _ (.inl HM.out.rbL)).set _ _ _ (.inl HM.out.rbL)).trans (Kept.of_below hb),fun x hx=>.inl hx⟩⟩
 have KEY:=hid key
 clear key
 by_cases hcc:cap=1
 ·go_enter Tryz.func45,Tryz.ntmps45
  go_wp2_with fail
  go_ret
  have h0:rest.length=0:=by omega
  exact⟨_,rfl,HF.out,KEY.out _ (by have:=HR2.out h0 (some ⟨g,o,none⟩) 0;rwa [h0])⟩
 go_enter Tryz.func45,Tryz.ntmps45
 go_wp2_with fail
 go_ret
 exact⟨_,rfl,HF.out,KEY.out _ HR1.out⟩
theorem take_snocS {xs ys:List ByteArray} {k:Nat} (h1:k < xs.length) (h2:k < ys.length) (h:xs.take k=ys.take k) (he:xs[k]=ys[k]):xs.take (k+1)=ys.take (k+1):=by
 rw [List.take_add_one,List.take_add_one,List.getElem?_eq_getElem h1,List.getElem?_eq_getElem h2,h,he]
theorem str_neq (s t:ByteArray) (h:s≠t):(s.toList==t.toList)=false:=by rw [beq_str,decide_eq_false_iff_not];exact h
theorem so_EqualS (v u:Value) (xs ys:List ByteArray) (w:World) (h:Rd w 1 v xs.length (strV xs)) (hu:Rd w 1 u ys.length (strV ys)) (hx:xs.length≤1048576) (hy:ys.length≤1048576) :
  Calls Tryz.prog 150 #[v,u] w fun e w'=>e=.returned (.bool (decide (xs=ys)))∧Below w.heap.size w w':=by
 obtain⟨-,A,c,rfl,hc,h2⟩:=h
 obtain⟨-,A',c',rfl,hc',h2'⟩:=hu
 have H1:=hid h2
 have H2:=hid h2'
 clear h2 h2'
 by_cases hl:xs.length=ys.length
 ·have hq:((xs.length:Int) != (ys.length:Int))=false:=by rw [hl];simp
  have HL:=hid hl
  clear hl
  go_enter Tryz.func150,Tryz.ntmps150
  go_wp2_with fail
  go_loopw [5,13] (fun _ i wr=>∃k:Nat,k≤xs.length∧i=.int .i64 k∧Hid (xs.take k=ys.take k)∧Hid (Below w.heap.size w wr)) (fun _ i _=>xs.length - (intOf i).toNat)
  case atStart=>exact⟨0,Nat.zero_le _,rfl,hid rfl,Below.refl _ _⟩
  case round =>
  obtain⟨k,hk,rfl,HT,HB⟩:=hrel
  by_cases hlt:k < xs.length
  ·have hlt2:k < ys.length:=by have:=HL.out;omega
   obtain⟨g,o,rfl,hcx⟩:=H1.out.resolve_left (by omega)
   obtain⟨g',o',rfl,hcy⟩:=H2.out.resolve_left (by omega)
   have e1:=hcx k _ (strV_get xs k hlt)
   have e2:=hcy k _ (strV_get ys k hlt2)
   have d1:=(HB.out.cell (block_lt_of_cell? w _ e1)).trans e1
   have d2:=(HB.out.cell (block_lt_of_cell? w _ e2)).trans e2
   clear e1 e2 hcx hcy
   by_cases he:xs[k]=ys[k]
   ·have HN:=hid (take_snocS hlt hlt2 HT.out he)
    rw [←he] at d2
    clear he
    go_wp2_with fail
    go_quiet (fail)
    go_wp2_with fail
    go_roundw
    case rel=>exact⟨k+1,by omega,by go_num,HN,below_drewN HB.out _⟩
    case measure=>simp [intOf];omega
   have hne:=str_neq xs[k] ys[k] he
   have HN:Hid (decide (xs=ys)=false):=hid (by rw [decide_eq_false_iff_not];rintro rfl;exact he rfl)
   clear he
   go_wp2_with fail
   go_quiet (fail)
   go_wp2_with fail
   go_ret
   exact⟨ret_bool HN.out.symm,below_drewN HB.out _⟩
  obtain rfl:k=xs.length:=by omega
  have HN:Hid (decide (xs=ys)=true):=hid (by
   rw [decide_eq_true_iff]
   have:=HT.out
   rwa [List.take_of_length_le (Nat.le_refl _),List.take_of_length_le (by rw [HL.out];exact Nat.le_refl _)] at this)
  go_wp2_with fail
  go_ret
  exact⟨ret_bool HN.out.symm,HB.out⟩
 have hq:((xs.length:Int) != (ys.length:Int))=true:=by rw [bne_iff_ne];omega
 have HN:Hid (decide (xs=ys)=false):=hid (by rw [decide_eq_false_iff_not];rintro rfl;exact hl rfl)
 clear hl
 go_enter Tryz.func150,Tryz.ntmps150
 go_wp2_with fail
 go_ret
 exact⟨ret_bool HN.out.symm,Below.refl _ _⟩
theorem Rd.front {w:World} {A:Option Addr} {n k c:Nat} {xs:List Value} (h:Rd w 1 (.slice A n c) n xs) (hk:k≤n):Rd w 1 (.slice A k c) k (xs.take k):=by
 obtain⟨h1,A',c',hv,hc,h2⟩:=h
 cases hv
 refine⟨by rw [List.length_take];omega,_,c,rfl,by omega,?_⟩
 rcases h2 with h2 | ⟨g,o,hA,h3⟩
 ·exact .inl (by omega)
 refine .inr ⟨g,o,hA,fun j u hj=>h3 j u ?_⟩
 rw [List.getElem?_take] at hj
 split at hj
 ·exact hj
 cases hj
theorem strV_take (ss:List ByteArray) (k:Nat):(strV ss).take k=strV (ss.take k):=by simp [strV]
theorem set_kept' {w:World} {L:List Nat} {b j:Nat} {x:Value} (h:b∈L):Kept L w (w.setCell ⟨b,j,none⟩ x):=(Kept.refl L w).set b j x (.inl h)
def InnerP (w0:World) (L:List Nat) (i:Ids) (E:Int) (kh k:Nat) (S:Sx) (hs:List ByteArray) (w:World) (e:Ending) (w':World):Prop :=
 Go2 L w L w'∧match S.rows with
  | []=>e=.panicked [flt E 116]
  | (l,row)::rest=>if row.take hs.length=hs then ∃fv,e=.returned fv∧Rd w0 1 fv row.length (strV row)∧RM w0 w' L i E (kh+1) (k+1) { S with rows:=rest,line:=l } else e=.panicked [flt l 116]
theorem so_inner (w0:World) (L:List Nat) (i:Ids) (E:Int) (kh k:Nat) (S:Sx) (u:Value) (hs:List ByteArray) (w:World) (h:RM w0 w L i E kh k S) (hu:∀w',Kept L w w'→Rd w' 1 u hs.length (strV hs)) (hsl:hs.length≤1048576) :
  Calls Tryz.prog 115 #[.pointer (some ⟨i.rb,0,none⟩),u] w (InnerP w0 L i E kh k S hs w):=by
 unfold InnerP
 rcases hrows:S.rows with _ | ⟨⟨l,row⟩,rest⟩
 ·obtain⟨hbd,v,hm⟩:=h
  have hr:=hm.rows
  rw [hrows] at hr
  obtain⟨rs,ha,⟨-,A,cap,hv,-,-⟩,-⟩:=hr
  have hn:rs.length=0:=by simpa [rowAbs] using congrArg List.length ha
  rw [hn] at hv
  have c1:=hm.r1
  rw [hv] at c1
  have c2:=hm.r2
  have c3:=hm.r3
  have z2:=hm.rz 2
  have HM:=hid hm
  have HU:=hid hu
  clear hm hbd ha hv hn hu hrows
  have HL:=hid (HM.out.setLine E).r2
  go_enter Tryz.func115,Tryz.ntmps115
  go_wp2_with fail
  refine (so_need i.rb E 116 _ HL.out).mono ?_
  rintro e w' ⟨⟨h,-⟩ | ⟨-,rfl⟩,rfl⟩
  ·exact absurd h (by decide)
  exact⟨rfl,⟨set_kept' HM.out.rbL,fun x hx=>.inl hx⟩,rfl⟩
 dsimp only
 have HT:=hid (so_take w0 L i E kh k S l row rest w h hrows)
 obtain⟨hbd,v,hm⟩:=h
 have hrl:row.length≤65536:=(hbd.row (l,row) (by rw [hrows];simp)).2.1
 have hr:=hm.rows
 rw [hrows] at hr
 obtain⟨g,o,cap,fv0,hv,hcap,-⟩:=rows_split hr
 have c1:=hm.r1
 rw [hv] at c1
 have hrest:rest.length+1≤65536:=by have:=hbd.heads;rw [hrows] at this;simp at this;omega
 have hq:(((rest.length+1:Nat):Int)==0)=false:=by rw [beq_eq_false_iff_ne];omega
 have HLt:Hid (∀x∈L,w0.heap.size≤x):=hid (fun x hx=>(hm.hl x hx).1)
 have HBs:=hid hm.base.size
 have HU:=hid hu
 obtain⟨-,A,cu,rfl,hcu,-⟩:=hu w (Kept.refl _ _)
 clear hm hbd hr hv hrows
 have hne:¬(rest.length:Int)+1=0:=by omega
 by_cases hge:hs.length≤row.length
 ·have hge2:decide ((hs.length:Int)≤(row.length:Int))=true:=by rw [decide_eq_true_iff];omega
  by_cases hq2:row.take hs.length=hs
  ·simp only [if_pos hq2]
   have HQ:=hid hq2
   clear hq2
   go_enter Tryz.func115,Tryz.ntmps115
   go_wp2_with fail
   refine HT.out.mono ?_
   rintro e w1 ⟨fv,rfl,hf,h1,hg⟩
   have HF:=hid hf
   have HM1:=hid h1
   have HG:=hid hg
   have HFw:Hid (Rd w1 1 fv row.length (strV row)):=by
    obtain⟨_,v1,hm1⟩:=h1
    exact hid (hf.keep hm1.base)
   obtain⟨-,A1,c1',rfl,hc1,-⟩:=hf
   have HUw:=hid (HU.out w1 hg.1)
   have HL1:Hid (w1.cell? ⟨i.rb,2,none⟩=some (.int .i64 l)):=by
    obtain⟨_,v1,hm1⟩:=h1
    exact hid hm1.r2
   clear h1 hg
   have hle:hs.length≤c1':=by omega
   have HE:=hid (so_EqualS (.slice A1 hs.length c1') (.slice A hs.length cu) (row.take hs.length) hs w1 (by rw [List.length_take,Nat.min_eq_left hge,←strV_take];exact HFw.out.front hge) HUw.out (by rw [List.length_take];omega) hsl)
   rw [decide_eq_true HQ.out] at HE
   go_wp2_with fail
   refine HE.out.mono ?_
   rintro e w2 ⟨rfl,hb⟩
   have HB:=hid hb
   clear hb
   go_wp2_with fail
   refine (so_must i.rb l _ _ _ (by decide) (line_keep HL1.out HB.out)).mono ?_
   rintro e w' ⟨⟨-,rfl⟩ | ⟨h,-⟩,rfl⟩
   ·go_wp2_with fail
    go_ret
    exact⟨HG.out.trans (Go2.of_below HB.out),_,rfl,HF.out,HM1.out.below HB.out⟩
   exact absurd h (by decide)
  simp only [if_neg hq2]
  have HQ:=hid hq2
  clear hq2
  go_enter Tryz.func115,Tryz.ntmps115
  go_wp2_with fail
  refine HT.out.mono ?_
  rintro e w1 ⟨fv,rfl,hf,h1,hg⟩
  have HF:=hid hf
  have HM1:=hid h1
  have HG:=hid hg
  have HFw:Hid (Rd w1 1 fv row.length (strV row)):=by
   obtain⟨_,v1,hm1⟩:=h1
   exact hid (hf.keep hm1.base)
  obtain⟨-,A1,c1',rfl,hc1,-⟩:=hf
  have HUw:=hid (HU.out w1 hg.1)
  have HL1:Hid (w1.cell? ⟨i.rb,2,none⟩=some (.int .i64 l)):=by
   obtain⟨_,v1,hm1⟩:=h1
   exact hid hm1.r2
  clear h1 hg
  have hle:hs.length≤c1':=by omega
  have HE:=hid (so_EqualS (.slice A1 hs.length c1') (.slice A hs.length cu) (row.take hs.length) hs w1 (by rw [List.length_take,Nat.min_eq_left hge,←strV_take];exact HFw.out.front hge) HUw.out (by rw [List.length_take];omega) hsl)
  rw [decide_eq_false HQ.out] at HE
  go_wp2_with fail
  refine HE.out.mono ?_
  rintro e w2 ⟨rfl,hb⟩
  have HB:=hid hb
  clear hb
  go_wp2_with fail
  refine (so_must i.rb l _ _ _ (by decide) (line_keep HL1.out HB.out)).mono ?_
  rintro e w' ⟨⟨h,-⟩ | ⟨-,rfl⟩,rfl⟩
  ·exact absurd h (by decide)
  exact⟨rfl,HG.out.trans (Go2.of_below HB.out),rfl⟩
 have hge2:decide ((hs.length:Int)≤(row.length:Int))=false:=by rw [decide_eq_false_iff_not];omega
 have hq2:¬row.take hs.length=hs:=fun e=>by
  have:=congrArg List.length e
  rw [List.length_take] at this;omega
 simp only [if_neg hq2]
 clear hq2
 go_enter Tryz.func115,Tryz.ntmps115
 go_wp2_with fail
 refine HT.out.mono ?_
 rintro e w1 ⟨fv,rfl,hf,h1,hg⟩
 have HF:=hid hf
 have HM1:=hid h1
 have HG:=hid hg
 have HFw:Hid (Rd w1 1 fv row.length (strV row)):=by
  obtain⟨_,v1,hm1⟩:=h1
  exact hid (hf.keep hm1.base)
 obtain⟨-,A1,c1',rfl,hc1,-⟩:=hf
 have HUw:=hid (HU.out w1 hg.1)
 have HL1:Hid (w1.cell? ⟨i.rb,2,none⟩=some (.int .i64 l)):=by
  obtain⟨_,v1,hm1⟩:=h1
  exact hid hm1.r2
 clear h1 hg
 go_wp2_with fail
 refine (so_must i.rb l _ _ _ (by decide) HL1.out).mono ?_
 rintro e w' ⟨⟨h,-⟩ | ⟨-,rfl⟩,rfl⟩
 ·exact absurd h (by decide)
 exact⟨rfl,HG.out,rfl⟩
theorem takeH {P:Program} {md:Region.Mode} {ops:Array Oper} {Q:Exit→Act→World→Prop} {S:World→Prop} {i:Nat} {d:Option Tmp} {oi:Oper} {v:Value} {fuel:Nat} {listed:Array Bool} {a:Act} {w:World} (hi:ops[i]?=some oi) (hd:oi.dst=d)
  (hs:Region.noSelect ops=true) (hf:Region.free md ops listed i=true) (hr:(Region.ready md ops listed).contains i=true)
  (hQ:∀c a w,Q (.panic c) (a.put d v) w→Q (.panic c) a w) (hy:YieldsIf P ops S oi v a) (hS:S w)
  (h:wpAnyH P md ops Q S fuel (listed.setIfInBounds i true) (a.put d v) w):wpAnyH P md ops Q S (fuel+1) listed a w:=by
 subst hd
 exact wpAnyH_take hi hs hf hr hQ hy hS h
theorem takeA {P:Program} {md:Region.Mode} {ops:Array Oper} {Q:Exit→Act→World→Prop} {i:Nat} {d:Option Tmp} {oi:Oper} {v:Value} {fuel:Nat} {listed:Array Bool} {a:Act} {w:World} (hi:ops[i]?=some oi) (hd:oi.dst=d)
  (hs:Region.noSelect ops=true) (hf:Region.free md ops listed i=true) (hr:(Region.ready md ops listed).contains i=true)
  (hQ:∀c a w,Q (.panic c) (a.put d v) w→Q (.panic c) a w) (hy:Yields P ops oi v a)
  (h:wpAny P md ops Q fuel (listed.setIfInBounds i true) (a.put d v) w):wpAny P md ops Q (fuel+1) listed a w:=by
 subst hd
 exact wpAny_take hi hs hf hr hQ hy h
theorem tkH {P:Program} {md:Region.Mode} {ops:Array Oper} {Q:Exit→Act→World→Prop} {S:World→Prop} (i:Nat) (d:Option Tmp) {oi:Oper} (v:Value) {fuel:Nat} {listed:Array Bool} {a:Act} {w:World}
  (hy:∀w,S w→(execOp a.eval oi).run P w=.ok (.value v) w) (hS:S w) (h:wpAnyH P md ops Q S fuel (listed.setIfInBounds i true) (a.put d v) w)
  (hi:ops[i]?=some oi:=by rfl) (hd:oi.dst=d:=by rfl) (hs:Region.noSelect ops=true:=by kernel_rfl) (hf:Region.free md ops listed i=true:=by kernel_rfl) (hr:(Region.ready md ops listed).contains i=true:=by kernel_rfl)
  (hg:Region.wanted oi (yielded ops a.tmps)=true:=by kernel_rfl) (hQ:∀c a w,Q (.panic c) (a.put d v) w→Q (.panic c) a w:=by exact fun _ _ _ h=>h):wpAnyH P md ops Q S (fuel+1) listed a w :=
 takeH hi hd hs hf hr hQ (.inl ⟨hg,hy⟩) hS h
theorem tkA {P:Program} {md:Region.Mode} {ops:Array Oper} {Q:Exit→Act→World→Prop} {S:World→Prop} (i:Nat) (d:Option Tmp) {oi:Oper} {v:Value} {fuel:Nat} {listed:Array Bool} {a:Act} {w:World}
  (hS:S w) (h:wpAnyH P md ops Q S fuel (listed.setIfInBounds i true) (a.put d v) w)
  (hi:ops[i]?=some oi:=by rfl) (hd:oi.dst=d:=by rfl) (hs:Region.noSelect ops=true:=by kernel_rfl) (hf:Region.free md ops listed i=true:=by kernel_rfl) (hr:(Region.ready md ops listed).contains i=true:=by kernel_rfl)
  (hg:Region.wanted oi (yielded ops a.tmps)=true:=by kernel_rfl) (hQ:∀c a w,Q (.panic c) (a.put d v) w→Q (.panic c) a w:=by exact fun _ _ _ h=>h)
  (hy:∀w,S w→(execOp a.eval oi).run P w=.ok (.value v) w:=by intro w hSw;(try dsimp only at hSw);go_simp;try with_reducible rfl):wpAnyH P md ops Q S (fuel+1) listed a w :=
 takeH hi hd hs hf hr hQ (.inl ⟨hg,hy⟩) hS h
theorem tkU {P:Program} {md:Region.Mode} {ops:Array Oper} {Q:Exit→Act→World→Prop} {S:World→Prop} (i:Nat) (d:Option Tmp) {oi:Oper} {fuel:Nat} {listed:Array Bool} {a:Act} {w:World}
  (hS:S w) (h:wpAnyH P md ops Q S fuel (listed.setIfInBounds i true) (a.put d undef) w)
  (hi:ops[i]?=some oi:=by rfl) (hd:oi.dst=d:=by rfl) (hs:Region.noSelect ops=true:=by kernel_rfl) (hf:Region.free md ops listed i=true:=by kernel_rfl) (hr:(Region.ready md ops listed).contains i=true:=by kernel_rfl)
  (hg:Region.wanted oi (yielded ops a.tmps)=false:=by kernel_rfl) (hQ:∀c a w,Q (.panic c) (a.put d undef) w→Q (.panic c) a w:=by exact fun _ _ _ h=>h):wpAnyH P md ops Q S (fuel+1) listed a w :=
 takeH hi hd hs hf hr hQ (.inr ⟨hg,rfl⟩) hS h
theorem rdy1 {P:Program} {md:Region.Mode} {ops:Array Oper} {Q:Exit→Act→World→Prop} {S:World→Prop} (i:Nat) {fuel:Nat} {listed:Array Bool} {a:Act} {w:World} {o:Oper}
  (h:∀K':Act→World→Prop,Shut (∀a w,S w→(S w→wpAnyH P md ops Q S fuel (listed.setIfInBounds i true) a w)→K' a w)→if Region.wanted o (yielded ops a.tmps)=true then Oper.wp P o a w K' Q else K' (a.put o.dst undef) w)
  (ho:ops[i]?=some o:=by rfl) (hr:Region.ready md ops listed=[i]:=by kernel_rfl):wpAnyH P md ops Q S (fuel+1) listed a w :=
 wpAnyH_ready hr (by simp) (AllReadyH.cons ho h AllReadyH.nil)
theorem put_norm:(∀(a:Act) (t:Tmp) (v:Value),a.put (some t) v={ a with tmps:=a.tmps.setIfInBounds t v })∧(∀(a:Act) (v:Value),a.put none v=a)∧(∀(l:List Value) (i:Nat) (v:Value),l.toArray.setIfInBounds i v=(l.set i v).toArray) ∧
  (∀(x v:Value) (l:List Value),(x::l).set 0 v=v::l)∧(∀(x v:Value) (l:List Value) (i:Nat),(x::l).set (i+1) v=x::l.set i v) :=
 ⟨fun _ _ _=>rfl,fun _ _=>rfl,fun _ _ _=>List.setIfInBounds_toArray ..,fun _ _ _=>rfl,fun _ _ _ _=>rfl⟩
def HeadP (w0:World) (L:List Nat) (i:Ids) (E:Int) (kh k:Nat) (R:RX) (w:World) (e:Ending) (w':World):Prop :=
 ∃L',Go2 L w L' w'∧match R with
  | .ok S'=>e=.returned (.tuple #[])∧RM w0 w' L' i E kh k S'
  | .error p=>e=.panicked [flt p.1 p.2]
theorem Bd.mono {kh k:Nat} {S:Sx} (h:Bd kh (k+1) S):Bd kh k S :=
 ⟨h.row,h.heads,h.headS,by have:=h.reps;omega,by have:=h.als;omega,by have:=h.cls;omega,by have:=h.rls;omega,h.flags,h.sets,h.nexts,h.kind,h.sp,h.line⟩
theorem Bd.same {kh k:Nat} {S:Sx} (h:Bd kh k S) (F:Fl) (h1:F.reps=S.fl.reps) (h2:F.als=S.fl.als) (h3:F.cls=S.fl.cls) (h4:F.rls=S.fl.rls) (h5:1≤F.kind∧F.kind≤3) (h6:∀n,0≤spAt F n∧spAt F n≤65535):Bd kh k { S with fl:=F } :=
 ⟨h.row,h.heads,h.headS,by rw [show ({ S with fl:=F }:Sx).fl.reps=S.fl.reps from h1];exact h.reps,by rw [show ({ S with fl:=F }:Sx).fl.als=S.fl.als from h2];exact h.als,by rw [show ({ S with fl:=F }:Sx).fl.cls=S.fl.cls from h3];exact h.cls,by rw [show ({ S with fl:=F }:Sx).fl.rls=S.fl.rls from h4];exact h.rls,
  by rw [show ({ S with fl:=F }:Sx).fl.cls=S.fl.cls from h3];exact h.flags,by rw [show ({ S with fl:=F }:Sx).fl.als=S.fl.als from h2];exact h.sets,by rw [show ({ S with fl:=F }:Sx).fl.rls=S.fl.rls from h4];exact h.nexts,h5,h6,h.line⟩
theorem drewN_below {w:World} (n:Nat):Below w.heap.size w (w.drewN n):=below_drewN (Below.refl _ _) n
theorem drew_below {w:World}:Below w.heap.size w w.drew:=(Below.refl _ w).drew
structure RowF1 (w0:World) (fv:Value) (row:List ByteArray):Prop where
 rd:Rd w0 1 fv row.length (strV row)
 len:row.length≤65536
 each:∀f∈row,f.size≤65536
theorem fieldAt_le {row:List ByteArray} (h:∀f∈row,f.size≤65536) (j:Nat):(fieldAt row j).size≤65536:=by
 unfold fieldAt
 rw [List.getD]
 rcases hj:row[j]? with _ | f
 ·show 0≤65536;omega
 exact h f (List.mem_of_getElem? hj)
theorem RowF1.cells {w0:World} {fv:Value} {row:List ByteArray} (h:RowF1 w0 fv row) (h0:0 < row.length):∃g o c,fv=.slice (some ⟨g,o,none⟩) row.length c∧row.length≤c∧∀j,j < row.length→w0.cell? ⟨g,o+j,none⟩=some (.string (fieldAt row j)):=by
 obtain⟨-,A,c,rfl,hc,h2⟩:=h.rd
 obtain⟨g,o,rfl,h3⟩:=h2.resolve_left (by omega)
 refine⟨g,o,c,rfl,hc,fun j hj=>?_⟩
 have:=h3 j _ (strV_get row j hj)
 rw [this];simp [fieldAt,List.getD,hj]
theorem field_in {w0 w:World} {g o j:Nat} {x:Value} (h:w0.cell? ⟨g,o+j,none⟩=some x) (hb:Below w0.heap.size w0 w):w.cell? ⟨g,o+j,none⟩=some x:=(hb.cell (block_lt_of_cell? w0 _ h)).trans h
theorem RM.base {w0 w:World} {L:List Nat} {i:Ids} {E:Int} {kh k:Nat} {S:Sx} (h:RM w0 w L i E kh k S):Below w0.heap.size w0 w:=by
 obtain⟨_,v,hm⟩:=h;exact hm.base
theorem RM.r2 {w0 w:World} {L:List Nat} {i:Ids} {E:Int} {kh k:Nat} {S:Sx} (h:RM w0 w L i E kh k S):w.cell? ⟨i.rb,2,none⟩=some (.int .i64 S.line):=by
 obtain⟨_,v,hm⟩:=h;exact hm.r2
theorem RMv.f1 {w0 w:World} {L:List Nat} {i:Ids} {v:Vs} {E:Int} {S:Sx} {nx:List Int} {tf:Int→Int} {tn cn:Nat} {cf:Int→Option Nat} (h:RMv w0 w L i v E S nx tf tn cf cn):w.cell? ⟨i.fb,1,none⟩=some (.string S.fl.charset)∧w.cell? ⟨i.fb,2,none⟩=some (.string S.fl.tryT):=by
 constructor<;>(rw [cell_of_heap h.file];rfl)
theorem so_charset (w0:World) (L:List Nat) (i:Ids) (E:Int) (kh k:Nat) (S:Sx) (fv:Value) (row:List ByteArray) (w:World) (h:RM w0 w L i E kh (k+1) S) (hr:RowF1 w0 fv row) (hl:row.length=2) :
  Calls Tryz.prog 76 #[.pointer (some ⟨i.rb,0,none⟩),fv] w (HeadP w0 L i E kh k (onFl S.line S (setR S.fl (fieldAt row 1))) w):=by
 have hsz:=fieldAt_le hr.each 1
 obtain⟨g,o,c,rfl,hc,hcells⟩:=hr.cells (by omega)
 have d1:=field_in (hcells 1 (by omega)) h.base
 have HP:=hid (so_plainR i.rb S.line (fieldAt row 1) w (by omega) h.r2)
 obtain⟨hbd,v,hm⟩:=h
 have c0:=hm.r0
 have e1:=hm.f1.1
 have fz:=hm.fz 1
 have HM:=hid hm
 have HB:=hid hbd
 rw [hl] at hc ⊢
 clear hcells hm hbd hr
 unfold setR
 cases hq:fitAll (fieldAt row 1)
 ·have HQ:=hid hq
  rw [if_pos rfl]
  clear hq
  go_enter Tryz.func76,Tryz.ntmps76
  go_wp2_with fail
  refine HP.out.mono ?_
  rw [HQ.out]
  rintro e w' ⟨⟨h,-⟩ | ⟨-,rfl⟩,rfl⟩
  ·cases h
  exact⟨rfl,L,Go2.refl _ _,rfl⟩
 have HQ:=hid hq
 rw [if_neg (by simp)]
 clear hq
 go_enter Tryz.func76,Tryz.ntmps76
 go_wp2_with fail
 refine HP.out.mono ?_
 rw [HQ.out]
 rintro e w' ⟨⟨-,rfl⟩ | ⟨h,-⟩,rfl⟩
 ·go_wp2_with fail
  go_region
  all_goals go_end0
  all_goals
   refine⟨L,⟨(set_kept' HM.out.fbL).drew,fun x hx=>.inl hx⟩,rfl,⟨?_,v,?_⟩⟩
   ·exact HB.out.mono.same _ rfl rfl rfl rfl HB.out.kind HB.out.sp
   exact (HM.out.setF (F':={ S.fl with charset:=fieldAt row 1 }) 1 _ (by rfl) rfl rfl rfl rfl).below drew_below
 cases h
theorem so_try (w0:World) (L:List Nat) (i:Ids) (E:Int) (kh k:Nat) (S:Sx) (fv:Value) (row:List ByteArray) (w:World) (h:RM w0 w L i E kh (k+1) S) (hr:RowF1 w0 fv row) (hl:row.length=2) :
  Calls Tryz.prog 77 #[.pointer (some ⟨i.rb,0,none⟩),fv] w (HeadP w0 L i E kh k (onFl S.line S (tryR S.fl (fieldAt row 1))) w):=by
 have hsz:=fieldAt_le hr.each 1
 obtain⟨g,o,c,rfl,hc,hcells⟩:=hr.cells (by omega)
 have d1:=field_in (hcells 1 (by omega)) h.base
 have HL:=hid (Letters_any (fieldAt row 1) w (by omega))
 have H2:=hid h.r2
 obtain⟨hbd,v,hm⟩:=h
 have HM:=hid hm
 have HB:=hid hbd
 rw [hl] at hc ⊢
 clear hcells hm hbd hr
 unfold tryR
 obtain⟨⟨t,e⟩,hq⟩:∃r,lettersS (fieldAt row 1)=r:=⟨_,rfl⟩
 rw [hq] at HL ⊢
 dsimp only at HL ⊢
 clear hq
 by_cases he:e=0
 ·subst he
  rw [if_neg (by simp)]
  go_enter Tryz.func77,Tryz.ntmps77
  go_wp2_with fail
  refine HL.out.mono ?_
  rintro e w1 ⟨rfl,hb⟩
  have HB1:=hid hb
  have HM1:=hid (HM.out.below hb)
  clear hb
  go_wp2_with fail
  refine (so_need i.rb S.line 0 _ HM1.out.r2).mono ?_
  rintro e w' ⟨⟨-,rfl⟩ | ⟨h,-⟩,rfl⟩
  ·have c0:=HM1.out.r0
   have e1:=HM1.out.f1.2
   have fz:=HM1.out.fz 2
   go_wp2_with fail
   go_end0
   exact⟨L,(Go2.of_below HB1.out).trans ⟨set_kept' HM1.out.fbL,fun x hx=>.inl hx⟩,rfl,HB.out.mono.same _ rfl rfl rfl rfl HB.out.kind HB.out.sp,v,HM1.out.setF (F':={ S.fl with tryT:=t }) 2 _ (by rfl) rfl rfl rfl rfl⟩
  exact absurd h (by decide)
 have he2:(e==0)=false:=by simpa using he
 have HE:=hid he2
 rw [if_pos he]
 clear he he2
 go_enter Tryz.func77,Tryz.ntmps77
 go_wp2_with fail
 refine HL.out.mono ?_
 rintro e' w1 ⟨rfl,hb⟩
 have HB1:=hid hb
 have HM1:=hid (HM.out.below hb)
 clear hb
 go_wp2_with fail
 refine (so_need i.rb S.line e _ HM1.out.r2).mono ?_
 rw [HE.out]
 rintro e' w' ⟨⟨h,-⟩ | ⟨-,rfl⟩,rfl⟩
 ·cases h
 exact⟨rfl,L,Go2.of_below HB1.out,rfl⟩
theorem so_least (w0:World) (L:List Nat) (i:Ids) (E:Int) (kh k:Nat) (S:Sx) (fv:Value) (row:List ByteArray) (w:World) (h:RM w0 w L i E kh (k+1) S) (hr:RowF1 w0 fv row) (hl:row.length=2) :
  Calls Tryz.prog 79 #[.pointer (some ⟨i.rb,0,none⟩),fv] w (HeadP w0 L i E kh k (onFl S.line S (leastR S.fl (fieldAt row 1))) w):=by
 have hsz:=fieldAt_le hr.each 1
 obtain⟨g,o,c,rfl,hc,hcells⟩:=hr.cells (by omega)
 have d1:=field_in (hcells 1 (by omega)) h.base
 have HN:=hid (so_rdNumber i.rb S.line (fieldAt row 1) 64 w.drew (by unfold maxLen;omega) (by decide) (by decide) h.r2)
 obtain⟨hbd,v,hm⟩:=h
 have c0:=hm.r0
 have e8:=hm.f8
 have fz:=hm.fz 8
 have HM:=hid hm
 have HB:=hid hbd
 rw [hl] at hc ⊢
 clear hcells hm hbd hr
 unfold leastR
 unfold numR_ at HN
 by_cases hq:numErr (fieldAt row 1).data.toList 64=0
 ·rw [if_neg (by simpa using hq)] at HN
  obtain⟨n,hn⟩:∃n,numVal (fieldAt row 1).data.toList 64=n:=⟨_,rfl⟩
  have hn0:=numVal_bd (fieldAt row 1).data.toList 64 (by decide)
  rw [hn] at HN hn0 ⊢
  by_cases h0:n=0
  ·rw [if_pos (.inr h0)]
   subst h0
   clear hq hn hn0
   go_enter Tryz.func79,Tryz.ntmps79
   go_wp2_with fail
   go_region_with (go_at_call 114;refine HN.out.mono ?_;rintro e w1 ⟨hb,rfl⟩;have HB1:=hid ((drew_below (w:=w)).trans hb);have HM1:=hid (HM.out.below HB1.out);have c0':=HM1.out.r0;have e8':=HM1.out.f8;have fz':=HM1.out.fz 8;clear hb)
   all_goals
    have c0'':=(HM1.out.setF (F':={ S.fl with least:=0 }) 8 _ (by rfl) rfl rfl rfl rfl).r0
    have c8'':=(HM1.out.setF (F':={ S.fl with least:=0 }) 8 _ (by rfl) rfl rfl rfl rfl).f8
    have HR2:=hid (HM1.out.setF (F':={ S.fl with least:=0 }) 8 _ (by rfl) rfl rfl rfl rfl).r2
    go_wp2_with fail
    refine (so_must i.rb S.line _ _ _ (by decide) HR2.out).mono ?_
    rintro e w' ⟨⟨h,-⟩ | ⟨-,rfl⟩,rfl⟩
    ·exact absurd h (by decide)
    exact⟨rfl,L,(Go2.of_below HB1.out).trans ⟨set_kept' HM1.out.fbL,fun x hx=>.inl hx⟩,rfl⟩
  rw [if_neg (fun h=>h.elim (fun h=>h hq) h0)]
  have hgt:decide (0 < n)=true:=by rw [decide_eq_true_iff];omega
  clear hq hn
  go_enter Tryz.func79,Tryz.ntmps79
  go_wp2_with fail
  go_region_with (go_at_call 114;refine HN.out.mono ?_;rintro e w1 ⟨hb,rfl⟩;have HB1:=hid ((drew_below (w:=w)).trans hb);have HM1:=hid (HM.out.below HB1.out);have c0':=HM1.out.r0;have e8':=HM1.out.f8;have fz':=HM1.out.fz 8;clear hb)
  all_goals
   have HF:=hid (HM1.out.setF (F':={ S.fl with least:=n }) 8 _ (by rfl) rfl rfl rfl rfl)
   have c0'':=HF.out.r0
   have c8'':=HF.out.f8
   go_wp2_with fail
   refine (so_must i.rb S.line _ _ _ (by decide) HF.out.r2).mono ?_
   rintro e w' ⟨⟨-,rfl⟩ | ⟨h,-⟩,rfl⟩
   ·go_wp2_with fail
    go_end0
    exact⟨L,(Go2.of_below HB1.out).trans ⟨set_kept' HM1.out.fbL,fun x hx=>.inl hx⟩,rfl,HB.out.mono.same _ rfl rfl rfl rfl HB.out.kind HB.out.sp,v,HF.out⟩
   exact absurd h (by simp)
 rw [if_pos hq] at HN
 rw [if_pos (.inl hq)]
 clear hq
 go_enter Tryz.func79,Tryz.ntmps79
 go_wp2_with fail
 refine wp_region_any (by kernel_rfl) ?_
 try (change wpAny _ _ _ _ _ _ _ (World.drew _))
 refine takeA (i:=0) (d:=some 4) (v:=?_) rfl rfl (by kernel_rfl) (by kernel_rfl) (by kernel_rfl) (fun _ _ _ h=>h) (Or.inl ⟨by kernel_rfl,?_⟩) ?_
 rotate_left
 ·intro w;go_simp;try with_reducible rfl
 try simp only [put_norm]
 refine takeA (i:=1) (d:=some 5) (v:=?_) rfl rfl (by kernel_rfl) (by kernel_rfl) (by kernel_rfl) (fun _ _ _ h=>h) (Or.inl ⟨by kernel_rfl,?_⟩) ?_
 rotate_left
 ·intro w;go_simp;try with_reducible rfl
 try simp only [put_norm]
 refine takeA (i:=2) (d:=some 6) (v:=?_) rfl rfl (by kernel_rfl) (by kernel_rfl) (by kernel_rfl) (fun _ _ _ h=>h) (Or.inl ⟨by kernel_rfl,?_⟩) ?_
 rotate_left
 ·intro w;go_simp;try with_reducible rfl
 try simp only [put_norm]
 refine takeA (i:=4) (d:=some 8) (v:=?_) rfl rfl (by kernel_rfl) (by kernel_rfl) (by kernel_rfl) (fun _ _ _ h=>h) (Or.inl ⟨by kernel_rfl,?_⟩) ?_
 rotate_left
 ·intro w;go_simp;try with_reducible rfl
 try simp only [put_norm]
 refine takeA (i:=5) (d:=some 9) (v:=?_) rfl rfl (by kernel_rfl) (by kernel_rfl) (by kernel_rfl) (fun _ _ _ h=>h) (Or.inl ⟨by kernel_rfl,?_⟩) ?_
 rotate_left
 ·intro w;go_simp;try with_reducible rfl
 try simp only [put_norm]
 refine takeA (i:=6) (d:=some 10) (v:=?_) rfl rfl (by kernel_rfl) (by kernel_rfl) (by kernel_rfl) (fun _ _ _ h=>h) (Or.inl ⟨by kernel_rfl,?_⟩) ?_
 rotate_left
 ·intro w;go_simp;try with_reducible rfl
 try simp only [put_norm]
 refine wpAny_ready (rs:=[3,7]) (by kernel_rfl) (by simp) ?_
 refine AllReady.cons rfl (fun K hK=>?_) ?_
 ·go_simp
  refine hK _ _ ?_
  clear hK K
  refine wpAny_ready (rs:=[7]) (by kernel_rfl) (by simp) ?_
  refine AllReady.cons rfl (fun K hK=>?_) ?_
  ·go_simp
   refine hK _ _ ?_
   clear hK K
   refine wpAny_ready (rs:=[8]) (by kernel_rfl) (by simp) ?_
   refine AllReady.cons rfl (fun K hK=>?_) ?_
   ·go_simp
    refine HN.out.mono ?_
    rintro e w' ⟨hb,rfl⟩
    exact⟨rfl,L,Go2.of_below ((drew_below (w:=w)).trans hb),rfl⟩
   exact AllReady.nil
  exact AllReady.nil
 refine AllReady.cons rfl (fun K hK=>?_) ?_
 ·go_simp
  refine hK _ _ ?_
  clear hK K
  refine wpAny_ready (rs:=[3,8]) (by kernel_rfl) (by simp) ?_
  refine AllReady.cons rfl (fun K hK=>?_) ?_
  ·go_simp
   refine hK _ _ ?_
   clear hK K
   refine wpAny_ready (rs:=[8]) (by kernel_rfl) (by simp) ?_
   refine AllReady.cons rfl (fun K hK=>?_) ?_
   ·go_simp
    refine HN.out.mono ?_
    rintro e w' ⟨hb,rfl⟩
    exact⟨rfl,L,Go2.of_below ((drew_below (w:=w)).trans hb),rfl⟩
   exact AllReady.nil
  refine AllReady.cons rfl (fun K hK=>?_) ?_
  ·go_simp
   refine HN.out.mono ?_
   rintro e w' ⟨hb,rfl⟩
   exact⟨rfl,L,Go2.of_below ((drew_below (w:=w)).trans hb),rfl⟩
  exact AllReady.nil
 exact AllReady.nil
theorem own_uniq {w:World} {B e size n:Nat} {v:Value} {xs ys:List Value} (h:w.ownsRow B e size v n xs) (h':w.ownsRow B e size v n ys):xs=ys:=by
 rcases h.2 with ⟨rfl,h0⟩ | ⟨g,cap,cur,rfl,_,hb,_,_,_,ht⟩
 ·have h1:=h.1
  have h2:=h'.1
  rw [h0,Nat.zero_mul] at h1 h2
  rw [List.eq_nil_of_length_eq_zero h1,List.eq_nil_of_length_eq_zero h2]
 rcases h'.2 with ⟨hv,_⟩ | ⟨g',cap',cur',hv,_,hb',_,_,_,ht'⟩
 ·cases hv
 cases hv
 rw [hb] at hb'
 cases hb'
 rw [←ht,←ht']
theorem step_pushL {P:Program} {w:World} {ops:Array Oper} {o:Oper} {a:Act} {K:Act→World→Prop} {Q:Exit→Act→World→Prop} {E:Prop} (hgd:o.guard=none) (s x:Operand) (t:TypeId)
  (ho:o.op=.call { callee:=.builtin .append,args:=#[s,x],argTypes:=#[t,t] })
  (base:Nat) (e:TypeId) (i:TypeInfo) (z:Value) (size bytes:Nat) (ht:P.underlying t=some (.slice e)) (hi:P.info? e=some i) (hz:i.zero=some z)
  (hsize:i.size=size) (hby:i.bytes=bytes) (hzs:z.cells.size=size) (hsz:0 < size)
  (v:Value) (n:Nat) (xs:List Value) (hs:a.eval s=v) (hown:w.ownsRow base e size v n xs)
  (us:Array Value) (hus:us.size=size) (h1:∀u∈us.toList,u.oneCell'=true) (hx:a.eval x=.slice (some ⟨w.heap.size,0,none⟩) 1 1)
  (h63:n+1≤maxLen) (hbytes:(n+1)*bytes≤140737488355328) (hbase:base≤w.heap.size)
  (h:∀g cap w',w'.ownsRow base e size (.slice (some ⟨g,0,none⟩) (n+1) cap) (n+1) (xs++us.toList)→w.grownBy w' v.ownBlock→LocP w w' v (.slice (some ⟨g,0,none⟩) (n+1) cap)→K (a.put o.dst (.slice (some ⟨g,0,none⟩) (n+1) cap)) w') :
  if Region.wanted o (yielded ops a.tmps)=true then Oper.wp P o a (w.alloc (.cells us e)) K Q else E:=by
 have hw:Region.wanted o (yielded ops a.tmps)=true:=by simp [Region.wanted,hgd]
 rw [if_pos hw]
 obtain⟨v',w',hrun,h2,h3,h4⟩:=run_append_src (P:=P) (w.alloc (.cells us e)) base t o.type e i z size bytes ht hi hz hsize hby hzs hsz v n xs (hown.alloc _) (some ⟨w.heap.size,0,none⟩) 1 1 us.toList (by simp [hus])
  (.inr ⟨_,rfl,by
   intro j u hj
   rw [row_addr,cell_of_row (w.alloc (.cells us e)) w.heap.size j us e (0,0) (heap_alloc_new w _)]
   simpa using hj⟩) h1 h63 hbytes (by simp;omega)
 obtain⟨g,cap,rfl⟩:∃g cap,v'=.slice (some ⟨g,0,none⟩) (n+1) cap:=by
  rcases h2.2 with ⟨_,h0⟩ | ⟨g,cap,cur,hv,_⟩
  ·omega
  exact⟨g,cap,hv⟩
 unfold Oper.wp execOp
 simp only [ho,resolve,invoke,builtin,Sem.run_bind,Sem.run_pure,Result.andThen_ok,List.map_toArray,List.map_cons,List.map_nil,hs,hx,hrun]
 refine h g cap w' h2 (grown_of_alloc h3) ?_
 rcases h4 with h4 | h4
 ·exact .inl h4
 refine .inr ⟨g,rfl,?_,(h2.lt g rfl).2⟩
 have:g=(w.alloc (.cells us e)).heap.size:=by simpa [Value.ownBlock] using h4
 rw [this,World.size_alloc];omega
section
variable {w0 w w1:World} {L:List Nat} {i:Ids} {v:Vs} {E:Int} {S:Sx} {nx:List Int} {tf:Int→Int} {tn cn:Nat} {cf:Int→Option Nat} {r:Option Nat}
theorem RMv.file_grown {e:Nat} (h:RMv w0 w L i v E S nx tf tn cf cn) (hg:w.grownBy w1 r) (hr:∀g,r=some g→TyB w g e) (hne:116≠e):w1.heap[i.fb]?=some (.cells (fileV i v S.fl) 116 (0,0)) :=
 (hg.block i.fb (h.hl _ h.fbL).2 (fun e1=>h.tyF.ne (hr _ e1.symm) hne rfl)).trans h.file
theorem RMv.rdr_grown {e:Nat} (h:RMv w0 w L i v E S nx tf tn cf cn) (hg:w.grownBy w1 r) (hr:∀g,r=some g→TyB w g e) (hne:119≠e):w1.heap[i.rb]?=some (.cells (rdrV i v E S) 119 (0,0)) :=
 (hg.block i.rb (h.hl _ h.rbL).2 (fun e1=>h.tyR.ne (hr _ e1.symm) hne rfl)).trans h.rdr
theorem RMv.grown_base (h:RMv w0 w L i v E S nx tf tn cf cn) (hg:w.grownBy w1 r) (hr:∀g,r=some g→g∈L):Below w0.heap.size w0 w1 :=
 h.base.grown hg h.base.size (fun g hgv=>(h.hl _ (hr g hgv)).1)
end
end Go.Proofs.YtfkblpjfknfgbaaGreatDoor
