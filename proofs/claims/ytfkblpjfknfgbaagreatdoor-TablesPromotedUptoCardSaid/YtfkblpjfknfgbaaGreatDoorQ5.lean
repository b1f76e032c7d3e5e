import Derived.Test.YtfkblpjfknfgbaaGreatDoorRows
import Derived.Test.YtfkblpjfknfgbaaGreatDoorQ4
import Derived.Test.YtfkblpjfknfgbaaGreatDoorQ3
import Derived.Deep.RegionWith
import Derived.Test.YtfkblpjfknfgbaaGreatDoorQ1
import Derived.Deep.RegionHeld3
import Derived.Deep.DrawnRows
import Derived.BigRegion
import Derived.RegionTactic
set_option linter.unusedVariables false
set_option linter.unusedSimpArgs false
set_option maxHeartbeats 8000000
set_option maxRecDepth 100000
open Go Go.Maps Go.RowKit
open Go.Lib (hid cell_of_heap frozen_of_heap byteCells)
open Go.World (block_lt_of_cell?)
namespace Go.Proofs.YtfkblpjfknfgbaaGreatDoor
section
variable {w0 w w':World} {L L' X:List Nat} {i:Ids} {v:Vs} {E:Int} {S:Sx} {nx:List Int} {tf:Int→Int} {tn cn:Nat} {cf:Int→Option Nat}
def mG (w:World) (g e:Nat):Prop:=∃cur fr,w.heap[g]?=some (.cells cur e fr)
theorem mG.ne {g g' e e':Nat} (h:mG w g e) (h':mG w g' e') (hne:e≠e'):g≠g':=by
 obtain⟨a,b,h⟩:=h
 obtain⟨c,d,h'⟩:=h'
 exact KM h h' hne
def KO (w:World) (b:Nat):Prop:=∃es c,w.heap[b]?=some (.map es c)
theorem mG.uR {g b e:Nat} (h:mG w g e) (h':KO w b):b≠g:=by
 obtain⟨a,d,h⟩:=h
 obtain⟨es,c,h'⟩:=h'
 exact G8 (e:=e) h' h
structure Rest (w0 w':World) (L' X:List Nat) (i:Ids) (v:Vs) (E:Int) (S:Sx) (nx:List Int) (tf:Int→Int) (tn:Nat) (cf:Int→Option Nat) (cn:Nat):Prop where
 base:Below w0.heap.size w0 w'
 hl:∀x∈L',w0.heap.size≤x∧x < w'.heap.size
 vN:i.rb∈L'
 oh:i.fb∈L'
 Fg:i.mb∈L'
 Gb:i.sb∈L'
 Fy:i.tb∈L'
 maps:i.mb≠i.sb∧i.mb≠i.tb∧i.sb≠i.tb
 lT:i.rb∉X→w'.heap[i.rb]?=some (.cells (KN i v E S) 119 (0,0))
 file:i.fb∉X→w'.heap[i.fb]?=some (.cells (pq i v S.fl) 116 (0,0))
 rows:gB w0 v.rows S.rows
 seen:i.sb∉X→mW w' i.sb S.heads.length (fun s=>S.heads.count s)
 taken:i.tb∉X→ow w' i.tb tn tf
 qN:i.mb∉X→xP w' i.mb cn cf
 au:(∀g,v.au.ownBlock=some g→g∉X)→eX w' L' 145 2 v.au S.fl.au.length (bB S.fl.au)
 aI:(∀g,v.aI.ownBlock=some g→g∉X)→∃us:List Value,eX w' L' 29 1 v.aI S.fl.aI.length us∧us.length=S.fl.aI.length∧∀(k:Nat) u a,us[k]?=some u→S.fl.aI[k]?=some a→FO w' L' u a
 cls:(∀g,v.cls.ownBlock=some g→g∉X)→eX w' L' 99 5 v.cls S.fl.cls.length (bG S.fl.cls)
 rls:(∀g,v.rls.ownBlock=some g→g∉X)→∃rs:List (Rl×Value),rs.map (·.1)=S.fl.rls∧eX w' L' 31 7 v.rls rs.length (aK rs)∧∀r∈rs,FO w' L' r.2 r.1.next
 nxs:(∀g,v.nxs.ownBlock=some g→g∉X)→eX w' L' 3 1 v.nxs nx.length (nx.map (Value.int .i64))
theorem bR.rest (h:bR w0 w L i v E S nx tf tn cf cn) (hk:Kept X w w') (hX:∀x∈X,x∈L) (hL:∀x∈L,x∈L') (hL':∀x∈L',(x∈L∨w.heap.size≤x)∧x < w'.heap.size):Rest w0 w' L' X i v E S nx tf tn cf cn:=by
 have hg:aZ L w L' w':=⟨hk.mono hX,fun x hx=>(hL' x hx).1⟩
 refine⟨h.base.trans (hk.below h.base.size (fun x hx=>(h.hl x (hX x hx)).1)),fun x hx=>⟨?_,(hL' x hx).2⟩,hL _ h.vN,hL _ h.oh,hL _ h.Fg,hL _ h.Gb,hL _ h.Fy,h.maps,
  fun hx=>hk.at h.lT hx,fun hx=>hk.at h.file hx,h.rows,fun hx=>h.seen.keep hk hx,fun hx=>h.taken.keep hk hx,fun hx=>h.qN.keep hk hx,
  fun hx=>h.au.keep hk hx hL,fun hx=>?_,fun hx=>h.cls.keep hk hx hL,fun hx=>?_,fun hx=>h.nxs.keep hk hx hL⟩
 ·rcases (hL' x hx).1 with h1 | h1
  ·exact (h.hl x h1).1
  exact Nat.le_trans h.base.size h1
 ·obtain⟨us,h1,h2,h3⟩:=h.aI
  exact⟨us,h1.keep hk hx hL,h2,fun k u a hu ha=>(h3 k u a hu ha).keep hg⟩
 obtain⟨rs,h1,h2,h3⟩:=h.rls
 exact⟨rs,h1,h2.keep hk hx hL,fun r hr=>(h3 r hr).keep hg⟩
theorem Rest.all (h:Rest w0 w' L' [] i v E S nx tf tn cf cn):bR w0 w' L' i v E S nx tf tn cf cn :=
 ⟨h.base,h.hl,h.vN,h.oh,h.Fg,h.Gb,h.Fy,h.maps,h.lT (by simp),h.file (by simp),h.rows,h.seen (by simp),h.taken (by simp),h.qN (by simp),h.au (by simp),h.aI (by simp),h.cls (by simp),h.rls (by simp),h.nxs (by simp)⟩
theorem bR.below (h:bR w0 w L i v E S nx tf tn cf cn) (hb:Below w.heap.size w w'):bR w0 w' L i v E S nx tf tn cf cn :=
 (h.rest (Kept.of_below (E:=[]) hb) (by simp) (fun _ h=>h) (fun x hx=>⟨.inl hx,Nat.lt_of_lt_of_le (h.hl x hx).2 hb.size⟩)).all
theorem RM.below {kh k:Nat} (h:RM w0 w L i E kh k S) (hb:Below w.heap.size w w'):RM w0 w' L i E kh k S:=by
 obtain⟨h1,v,h2⟩:=h
 exact⟨h1,v,h2.below hb⟩
theorem bR.wu (h:bR w0 w L i v E S nx tf tn cf cn):mG w i.rb 119:=⟨_,_,h.lT⟩
theorem bR.yY (h:bR w0 w L i v E S nx tf tn cf cn):mG w i.fb 116:=⟨_,_,h.file⟩
theorem bR.EG (h:bR w0 w L i v E S nx tf tn cf cn):KO w i.sb:=h.seen.is
theorem bR.EH (h:bR w0 w L i v E S nx tf tn cf cn):KO w i.tb:=h.taken.is
theorem bR.EI (h:bR w0 w L i v E S nx tf tn cf cn):KO w i.mb:=h.qN.is
theorem bR.bY (h:bR w0 w L i v E S nx tf tn cf cn) (g:Nat) (hg:v.au.ownBlock=some g):mG w g 145:=h.au.ty g hg
theorem bR.eP (h:bR w0 w L i v E S nx tf tn cf cn) (g:Nat) (hg:v.aI.ownBlock=some g):mG w g 29:=by obtain⟨us,h1,_⟩:=h.aI;exact h1.ty g hg
theorem bR.eu (h:bR w0 w L i v E S nx tf tn cf cn) (g:Nat) (hg:v.cls.ownBlock=some g):mG w g 99:=h.cls.ty g hg
theorem bR.dQ (h:bR w0 w L i v E S nx tf tn cf cn) (g:Nat) (hg:v.rls.ownBlock=some g):mG w g 31:=by obtain⟨us,_,h1,_⟩:=h.rls;exact h1.ty g hg
theorem bR.kI (h:bR w0 w L i v E S nx tf tn cf cn) (g:Nat) (hg:v.nxs.ownBlock=some g):mG w g 3:=h.nxs.ty g hg
theorem bW {e e' g:Nat} (hX:∀x∈X,mG w x e) (h:mG w g e') (hne:e'≠e):g∉X:=fun hm=>h.ne (hX g hm) hne rfl
theorem qG {e g:Nat} (hX:∀x∈X,mG w x e) (h:KO w g):g∉X:=fun hm=>(hX g hm).uR h rfl
end
section
variable {w0 w w':World} {L:List Nat} {i:Ids} {v:Vs} {E:Int} {S:Sx} {nx:List Int} {tf:Int→Int} {tn cn:Nat} {cf:Int→Option Nat}
theorem bR.r0 (h:bR w0 w L i v E S nx tf tn cf cn):w.cell? ⟨i.rb,0,none⟩=some (.pointer (some ⟨i.fb,0,none⟩)):=by rw [cell_of_heap h.lT];rfl
theorem bR.r1 (h:bR w0 w L i v E S nx tf tn cf cn):w.cell? ⟨i.rb,1,none⟩=some v.rows:=by rw [cell_of_heap h.lT];rfl
theorem bR.r2 (h:bR w0 w L i v E S nx tf tn cf cn):w.cell? ⟨i.rb,2,none⟩=some (.int .i64 S.line):=by rw [cell_of_heap h.lT];rfl
theorem bR.r3 (h:bR w0 w L i v E S nx tf tn cf cn):w.cell? ⟨i.rb,3,none⟩=some (.int .i64 E):=by rw [cell_of_heap h.lT];rfl
theorem bR.r4 (h:bR w0 w L i v E S nx tf tn cf cn):w.cell? ⟨i.rb,4,none⟩=some (.map (some i.sb)):=by rw [cell_of_heap h.lT];rfl
theorem bR.r5 (h:bR w0 w L i v E S nx tf tn cf cn):w.cell? ⟨i.rb,5,none⟩=some (.map (some i.tb)):=by rw [cell_of_heap h.lT];rfl
theorem bR.r6 (h:bR w0 w L i v E S nx tf tn cf cn):w.cell? ⟨i.rb,6,none⟩=some v.nxs:=by rw [cell_of_heap h.lT];rfl
theorem bR.rz (h:bR w0 w L i v E S nx tf tn cf cn) (j:Nat):w.frozen? ⟨i.rb,j,none⟩=false:=frozen_of_heap h.lT j
theorem bR.f0 (h:bR w0 w L i v E S nx tf tn cf cn):w.cell? ⟨i.fb,0,none⟩=some (.int .i64 S.fl.kind):=by rw [cell_of_heap h.file];rfl
theorem bR.f8 (h:bR w0 w L i v E S nx tf tn cf cn):w.cell? ⟨i.fb,8,none⟩=some (.int .i64 S.fl.least):=by rw [cell_of_heap h.file];rfl
theorem bR.f9 (h:bR w0 w L i v E S nx tf tn cf cn):w.cell? ⟨i.fb,9,none⟩=some v.au:=by rw [cell_of_heap h.file];rfl
theorem bR.f10 (h:bR w0 w L i v E S nx tf tn cf cn):w.cell? ⟨i.fb,10,none⟩=some v.aI:=by rw [cell_of_heap h.file];rfl
theorem bR.f11 (h:bR w0 w L i v E S nx tf tn cf cn):w.cell? ⟨i.fb,11,none⟩=some v.cls:=by rw [cell_of_heap h.file];rfl
theorem bR.f12 (h:bR w0 w L i v E S nx tf tn cf cn):w.cell? ⟨i.fb,12,none⟩=some v.rls:=by rw [cell_of_heap h.file];rfl
theorem bR.f13 (h:bR w0 w L i v E S nx tf tn cf cn):w.cell? ⟨i.fb,13,none⟩=some (.map (some i.mb)):=by rw [cell_of_heap h.file];rfl
theorem bR.fz (h:bR w0 w L i v E S nx tf tn cf cn) (j:Nat):w.frozen? ⟨i.fb,j,none⟩=false:=frozen_of_heap h.file j
theorem bR.rf (h:bR w0 w L i v E S nx tf tn cf cn):i.rb≠i.fb:=h.wu.ne h.yY (by decide)
theorem dn (w:World) (b j:Nat) (x:Value):Kept [b] w (w.setCell ⟨b,j,none⟩ x):=(Kept.refl [b] w).set b j x (.inl (by simp))
theorem jW (w:World) (p:Addr) (x:Value):(w.setCell p x).heap.size=w.heap.size:=by simp [World.setCell]
theorem bR.oW {v':Vs} {S':Sx} {nx':List Int} (h:bR w0 w L i v E S nx tf tn cf cn) (j:Nat) (x:Value) (harr:(KN i v E S).setIfInBounds j x=KN i v' E S') (hf:S'.fl=S.fl) (hh:S'.heads=S.heads)
  (hv:v'.au=v.au∧v'.aI=v.aI∧v'.cls=v.cls∧v'.rls=v.rls) (hrows:gB w0 v'.rows S'.rows)
  (hnx:eX (w.setCell ⟨i.rb,j,none⟩ x) L 3 1 v'.nxs nx'.length (nx'.map (Value.int .i64))):bR w0 (w.setCell ⟨i.rb,j,none⟩ x) L i v' E S' nx' tf tn cf cn:=by
 have hX:∀y∈[i.rb],mG w y 119:=by intro y hy;simp at hy;subst hy;exact h.wu
 have r:=h.rest (dn w i.rb j x) (by intro y hy;simp at hy;subst hy;exact h.vN) (fun _ h=>h) (fun y hy=>⟨.inl hy,by rw [jW];exact (h.hl y hy).2⟩)
 obtain⟨v1,v2,v3,v4⟩:=hv
 refine⟨r.base,r.hl,r.vN,r.oh,r.Fg,r.Gb,r.Fy,r.maps,?_,?_,hrows,?_,r.taken (qG hX h.EH),r.qN (qG hX h.EI),?_,?_,?_,?_,hnx⟩
 ·rw [←harr];exact heap_setCell_same _ i.rb j _ _ _ h.lT
 ·have:=r.file (bW hX h.yY (by decide))
  rw [this];unfold pq;rw [hf,v1,v2,v3,v4]
 ·rw [hh];exact r.seen (qG hX h.EG)
 ·rw [v1,hf];exact r.au (fun g hg=>bW hX (h.bY g hg) (by decide))
 ·rw [v2,hf];exact r.aI (fun g hg=>bW hX (h.eP g hg) (by decide))
 ·rw [v3,hf];exact r.cls (fun g hg=>bW hX (h.eu g hg) (by decide))
 rw [v4,hf];exact r.rls (fun g hg=>bW hX (h.dQ g hg) (by decide))
theorem bR.lU (h:bR w0 w L i v E S nx tf tn cf cn) (l:Int):bR w0 (w.setCell ⟨i.rb,2,none⟩ (.int .i64 l)) L i v E { S with line:=l } nx tf tn cf cn:=by
 have hX:∀y∈[i.rb],mG w y 119:=by intro y hy;simp at hy;subst hy;exact h.wu
 exact h.oW 2 _ (by rfl) rfl rfl ⟨rfl,rfl,rfl,rfl⟩ h.rows (h.nxs.keep (dn w i.rb 2 _) (fun g hg=>bW hX (h.kI g hg) (by decide)) (fun _ h=>h))
theorem bR.setRows (h:bR w0 w L i v E S nx tf tn cf cn) (u:Value) (rows:List Row) (hr:gB w0 u rows):bR w0 (w.setCell ⟨i.rb,1,none⟩ u) L i { v with rows:=u } E { S with rows:=rows } nx tf tn cf cn:=by
 have hX:∀y∈[i.rb],mG w y 119:=by intro y hy;simp at hy;subst hy;exact h.wu
 exact h.oW 1 _ (by rfl) rfl rfl ⟨rfl,rfl,rfl,rfl⟩ hr (h.nxs.keep (dn w i.rb 1 _) (fun g hg=>bW hX (h.kI g hg) (by decide)) (fun _ h=>h))
theorem bR.qJ {F':Fl} (h:bR w0 w L i v E S nx tf tn cf cn) (j:Nat) (x:Value) (harr:(pq i v S.fl).setIfInBounds j x=pq i v F') (h1:F'.au=S.fl.au) (h2:F'.aI=S.fl.aI) (h3:F'.cls=S.fl.cls) (h4:F'.rls=S.fl.rls) :
  bR w0 (w.setCell ⟨i.fb,j,none⟩ x) L i v E { S with fl:=F' } nx tf tn cf cn:=by
 have hX:∀y∈[i.fb],mG w y 116:=by intro y hy;simp at hy;subst hy;exact h.yY
 have r:=h.rest (dn w i.fb j x) (by intro y hy;simp at hy;subst hy;exact h.oh) (fun _ h=>h) (fun y hy=>⟨.inl hy,by rw [jW];exact (h.hl y hy).2⟩)
 refine⟨r.base,r.hl,r.vN,r.oh,r.Fg,r.Gb,r.Fy,r.maps,r.lT (bW hX h.wu (by decide)),?_,r.rows,r.seen (qG hX h.EG),r.taken (qG hX h.EH),r.qN (qG hX h.EI),?_,?_,?_,?_,r.nxs (fun g hg=>bW hX (h.kI g hg) (by decide))⟩
 ·show _=some (Obj.cells (pq i v F') _ _)
  rw [←harr];exact heap_setCell_same _ i.fb j _ _ _ h.file
 ·show eX _ _ _ _ _ F'.au.length (bB F'.au)
  rw [h1];exact r.au (fun g hg=>bW hX (h.bY g hg) (by decide))
 ·have:=r.aI (fun g hg=>bW hX (h.eP g hg) (by decide))
  simpa only [h2] using this
 ·show eX _ _ _ _ _ F'.cls.length (bG F'.cls)
  rw [h3];exact r.cls (fun g hg=>bW hX (h.eu g hg) (by decide))
 have:=r.rls (fun g hg=>bW hX (h.dQ g hg) (by decide))
 simpa only [h4] using this
theorem bR.PL {S':Sx} (h:bR w0 w L i v E S nx tf tn cf cn) (hk:Kept [i.sb] w w') (hS:mW w' i.sb S'.heads.length (fun s=>S'.heads.count s)) (hf:S'.fl=S.fl) (hr:S'.rows=S.rows) (hl:S'.line=S.line) :
  bR w0 w' L i v E S' nx tf tn cf cn:=by
 have o1:∀{g e:Nat},mG w g e→g∉[i.sb]:=fun hg hm=>by simp at hm;exact hg.uR h.EG hm.symm
 have r:=h.rest hk (by intro y hy;simp at hy;subst hy;exact h.Gb) (fun _ h=>h) (fun y hy=>⟨.inl hy,Nat.lt_of_lt_of_le (h.hl y hy).2 hk.size⟩)
 refine⟨r.base,r.hl,r.vN,r.oh,r.Fg,r.Gb,r.Fy,r.maps,?_,?_,by rw [hr];exact r.rows,hS,r.taken (by simpa using Ne.symm h.maps.2.2),r.qN (by simpa using h.maps.1),?_,?_,?_,?_,r.nxs (fun g hg=>o1 (h.kI g hg))⟩
 ·have:=r.lT (o1 h.wu);rw [this];unfold KN;rw [hl]
 ·rw [hf];exact r.file (o1 h.yY)
 ·rw [hf];exact r.au (fun g hg=>o1 (h.bY g hg))
 ·rw [hf];exact r.aI (fun g hg=>o1 (h.eP g hg))
 ·rw [hf];exact r.cls (fun g hg=>o1 (h.eu g hg))
 rw [hf];exact r.rls (fun g hg=>o1 (h.dQ g hg))
theorem bR.EJ {tf':Int→Int} {tn':Nat} (h:bR w0 w L i v E S nx tf tn cf cn) (hk:Kept [i.tb] w w') (hS:ow w' i.tb tn' tf'):bR w0 w' L i v E S nx tf' tn' cf cn:=by
 have o1:∀{g e:Nat},mG w g e→g∉[i.tb]:=fun hg hm=>by simp at hm;exact hg.uR h.EH hm.symm
 have r:=h.rest hk (by intro y hy;simp at hy;subst hy;exact h.Fy) (fun _ h=>h) (fun y hy=>⟨.inl hy,Nat.lt_of_lt_of_le (h.hl y hy).2 hk.size⟩)
 exact⟨r.base,r.hl,r.vN,r.oh,r.Fg,r.Gb,r.Fy,r.maps,r.lT (o1 h.wu),r.file (o1 h.yY),r.rows,r.seen (by simpa using h.maps.2.2),hS,r.qN (by simpa using h.maps.2.1),r.au (fun g hg=>o1 (h.bY g hg)),
  r.aI (fun g hg=>o1 (h.eP g hg)),r.cls (fun g hg=>o1 (h.eu g hg)),r.rls (fun g hg=>o1 (h.dQ g hg)),r.nxs (fun g hg=>o1 (h.kI g hg))⟩
theorem bR.Qv {cf':Int→Option Nat} {cn':Nat} (h:bR w0 w L i v E S nx tf tn cf cn) (hk:Kept [i.mb] w w') (hS:xP w' i.mb cn' cf'):bR w0 w' L i v E S nx tf tn cf' cn':=by
 have o1:∀{g e:Nat},mG w g e→g∉[i.mb]:=fun hg hm=>by simp at hm;exact hg.uR h.EI hm.symm
 have r:=h.rest hk (by intro y hy;simp at hy;subst hy;exact h.Fg) (fun _ h=>h) (fun y hy=>⟨.inl hy,Nat.lt_of_lt_of_le (h.hl y hy).2 hk.size⟩)
 exact⟨r.base,r.hl,r.vN,r.oh,r.Fg,r.Gb,r.Fy,r.maps,r.lT (o1 h.wu),r.file (o1 h.yY),r.rows,r.seen (by simpa using Ne.symm h.maps.1),r.taken (by simpa using Ne.symm h.maps.2.1),hS,r.au (fun g hg=>o1 (h.bY g hg)),
  r.aI (fun g hg=>o1 (h.eP g hg)),r.cls (fun g hg=>o1 (h.eu g hg)),r.rls (fun g hg=>o1 (h.dQ g hg)),r.nxs (fun g hg=>o1 (h.kI g hg))⟩
end
structure rY (w w2:World) (L L' X:List Nat) (b eb:Nat) (j:Nat) (x:Value) (e size:Nat) (v':Value) (m:Nat) (ys:List Value):Prop where
 kept:Kept X w w2
 sub:∀y∈L,y∈L'
 sup:∀y∈L',(y∈L∨w.heap.size≤y)∧y < w2.heap.size
 own:eX w2 L' e size v' m ys
 FH:∀y∈X,y∈L
 cell:∀cur,w.heap[b]?=some (.cells cur eb (0,0))→w2.heap[b]?=some (.cells (cur.setIfInBounds j x) eb (0,0))
 tys:∀y∈X,mG w y e∨mG w y eb
theorem rY.go {w w2:World} {L L' X:List Nat} {b eb j e size m:Nat} {x v':Value} {ys:List Value} (h:rY w w2 L L' X b eb j x e size v' m ys):aZ L w L' w2:=⟨h.kept.mono h.FH,fun y hy=>(h.sup y hy).1⟩
theorem rY.out {w w2:World} {L L' X:List Nat} {b eb j e size m:Nat} {x v':Value} {ys:List Value} (h:rY w w2 L L' X b eb j x e size v' m ys) {g e':Nat} (hg:mG w g e') (h1:e'≠e) (h2:e'≠eb):g∉X:=fun hm=>by
 rcases h.tys g hm with h3 | h3
 ·exact hg.ne h3 h1 rfl
 ·exact hg.ne h3 h2 rfl
theorem rY.rZ {w w2:World} {L L' X:List Nat} {b eb j e size m:Nat} {x v':Value} {ys:List Value} (h:rY w w2 L L' X b eb j x e size v' m ys) {g:Nat} (hg:KO w g):g∉X:=fun hm=>by
 rcases h.tys g hm with h3 | h3
 ·exact h3.uR hg rfl
 ·exact h3.uR hg rfl
def n_ (w w1:World) (v v':Value):Prop:=v'.ownBlock=v.ownBlock∨∃g,v'.ownBlock=some g∧w.heap.size≤g∧g < w1.heap.size
theorem fU {w w1:World} {L:List Nat} {e size n m:Nat} {v v':Value} {xs ys:List Value} (h:eX w L e size v n xs) (hl:∀x∈L,x < w.heap.size) (hg:w.grownBy w1 v.ownBlock) (hown:w1.ownsRow 0 e size v' m ys) (hloc:n_ w w1 v v')
  (b eb:Nat) (hb:b∈L) (hty:mG w b eb) (hne:e≠eb) (j:Nat) (x:Value):rY w (w1.setCell ⟨b,j,none⟩ x) L (L++v'.ownBlock.toList) (v.ownBlock.toList++[b]) b eb j x e size v' m ys:=by
 have hbv:∀g,v.ownBlock=some g→g≠b:=fun g hgv=>mG.ne (h.ty g hgv) hty hne
 have ZI:∀g,v'.ownBlock=some g→g≠b:=fun g hgv=>by
  rcases hloc with h1 | ⟨g',h1,h2,_⟩
  ·exact hbv g (by rw [←h1];exact hgv)
  rw [hgv] at h1;cases h1
  have:=hl b hb;omega
 have hbn:some b≠v.ownBlock:=fun e1=>hbv b e1.symm rfl
 refine⟨?_,fun y hy=>List.mem_append.2 (.inl hy),?_,?_,?_,?_,?_⟩
 ·refine (Kept.grown (E:=v.ownBlock.toList++[b]) hg (fun k hk=>by rw [hk];simp)).set b j x (.inl (by simp))
 ·intro y hy
  rw [jW]
  rcases List.mem_append.1 hy with h1 | h1
  ·exact⟨.inl h1,Nat.lt_of_lt_of_le (hl y h1) hg.size⟩
  have h2:v'.ownBlock=some y:=by simpa using h1
  rcases hloc with h3 | ⟨g',h3,h4,h5⟩
  ·have h6:=h.2 y (by rw [←h3];exact h2)
   exact⟨.inl h6,Nat.lt_of_lt_of_le (hl y h6) hg.size⟩
  rw [h2] at h3;cases h3
  exact⟨.inr h4,h5⟩
 ·refine⟨(dn w1 b j x).own hown (fun g hgv=>by simpa using ZI g hgv),fun g hgv=>List.mem_append.2 (.inr (by rw [hgv];simp))⟩
 ·intro y hy
  rcases List.mem_append.1 hy with h1 | h1
  ·exact h.2 y (by simpa using h1)
  simp at h1;subst h1;exact hb
 ·intro cur hc
  exact heap_setCell_same w1 b j cur eb x ((hg.block b (hl b hb) hbn).trans hc)
 intro y hy
 rcases List.mem_append.1 hy with h1 | h1
 ·exact .inl (h.ty y (by simpa using h1))
 simp at h1;subst h1;exact .inr hty
section
variable {w0 w w1:World} {L:List Nat} {i:Ids} {v:Vs} {E:Int} {S:Sx} {nx:List Int} {tf:Int→Int} {tn cn:Nat} {cf:Int→Option Nat} {v':Value}
theorem bR.mO (h:bR w0 w L i v E S nx tf tn cf cn) (a b:ByteArray) (hg:w.grownBy w1 v.au.ownBlock) (hloc:n_ w w1 v.au v') (hown:w1.ownsRow 0 145 2 v' (S.fl.au.length+1) (bB S.fl.au++[.string a,.string b])) :
  ∃L',aZ L w L' (w1.setCell ⟨i.fb,9,none⟩ v')∧bR w0 (w1.setCell ⟨i.fb,9,none⟩ v') L' i { v with au:=v' } E { S with fl:={ S.fl with au:=S.fl.au++[(a,b)] } } nx tf tn cf cn:=by
 have p:=fU h.au (fun x hx=>(h.hl x hx).2) hg hown hloc i.fb 116 h.oh h.yY (by decide) 9 v'
 have r:=h.rest p.kept p.FH p.sub p.sup
 refine⟨_,p.go,r.base,r.hl,r.vN,r.oh,r.Fg,r.Gb,r.Fy,r.maps,r.lT (p.out h.wu (by decide) (by decide)),by have:=p.cell _ h.file;exact this,r.rows,r.seen (p.rZ h.EG),r.taken (p.rZ h.EH),r.qN (p.rZ h.EI),by have:=p.own;rw [show bB S.fl.au++[Value.string a,.string b]=bB (S.fl.au++[(a,b)]) by simp [bB]] at this;simpa using this,r.aI (fun g hg=>p.out (h.eP g hg) (by decide) (by decide)),r.cls (fun g hg=>p.out (h.eu g hg) (by decide) (by decide)),r.rls (fun g hg=>p.out (h.dQ g hg) (by decide) (by decide)),r.nxs (fun g hg=>p.out (h.kI g hg) (by decide) (by decide))⟩
theorem bR.sJ (h:bR w0 w L i v E S nx tf tn cf cn) (c:Cl) (hg:w.grownBy w1 v.cls.ownBlock) (hloc:n_ w w1 v.cls v') (hown:w1.ownsRow 0 99 5 v' (S.fl.cls.length+1) (bG S.fl.cls++[.int .u16 c.flag,.int .i64 c.kind,.bool c.cross,.int .i64 c.first,.int .i64 c.count])) :
  ∃L',aZ L w L' (w1.setCell ⟨i.fb,11,none⟩ v')∧bR w0 (w1.setCell ⟨i.fb,11,none⟩ v') L' i { v with cls:=v' } E { S with fl:={ S.fl with cls:=S.fl.cls++[c] } } nx tf tn cf cn:=by
 have p:=fU h.cls (fun x hx=>(h.hl x hx).2) hg hown hloc i.fb 116 h.oh h.yY (by decide) 11 v'
 have r:=h.rest p.kept p.FH p.sub p.sup
 refine⟨_,p.go,r.base,r.hl,r.vN,r.oh,r.Fg,r.Gb,r.Fy,r.maps,r.lT (p.out h.wu (by decide) (by decide)),by have:=p.cell _ h.file;exact this,r.rows,r.seen (p.rZ h.EG),r.taken (p.rZ h.EH),r.qN (p.rZ h.EI),r.au (fun g hg=>p.out (h.bY g hg) (by decide) (by decide)),r.aI (fun g hg=>p.out (h.eP g hg) (by decide) (by decide)),by have:=p.own;rw [show bG S.fl.cls++[Value.int .u16 c.flag,.int .i64 c.kind,.bool c.cross,.int .i64 c.first,.int .i64 c.count]=bG (S.fl.cls++[c]) by simp [bG]] at this;simpa using this,r.rls (fun g hg=>p.out (h.dQ g hg) (by decide) (by decide)),r.nxs (fun g hg=>p.out (h.kI g hg) (by decide) (by decide))⟩
theorem bR.EK (h:bR w0 w L i v E S nx tf tn cf cn) (l:Int) (hg:w.grownBy w1 v.nxs.ownBlock) (hloc:n_ w w1 v.nxs v') (hown:w1.ownsRow 0 3 1 v' (nx.length+1) (nx.map (Value.int .i64)++[.int .i64 l])) :
  ∃L',aZ L w L' (w1.setCell ⟨i.rb,6,none⟩ v')∧bR w0 (w1.setCell ⟨i.rb,6,none⟩ v') L' i { v with nxs:=v' } E S (nx++[l]) tf tn cf cn:=by
 have p:=fU h.nxs (fun x hx=>(h.hl x hx).2) hg hown hloc i.rb 119 h.vN h.wu (by decide) 6 v'
 have r:=h.rest p.kept p.FH p.sub p.sup
 refine⟨_,p.go,r.base,r.hl,r.vN,r.oh,r.Fg,r.Gb,r.Fy,r.maps,by have:=p.cell _ h.lT;exact this,r.file (p.out h.yY (by decide) (by decide)),r.rows,r.seen (p.rZ h.EG),r.taken (p.rZ h.EH),r.qN (p.rZ h.EI),r.au (fun g hg=>p.out (h.bY g hg) (by decide) (by decide)),r.aI (fun g hg=>p.out (h.eP g hg) (by decide) (by decide)),r.cls (fun g hg=>p.out (h.eu g hg) (by decide) (by decide)),r.rls (fun g hg=>p.out (h.dQ g hg) (by decide) (by decide)),by have:=p.own;rw [show nx.map (Value.int .i64)++[Value.int .i64 l]=(nx++[l]).map (Value.int .i64) by simp] at this;simpa using this⟩
theorem bR.sK (h:bR w0 w L i v E S nx tf tn cf cn) (u:Value) (a:List Int) (hu:FO w L u a) (hg:w.grownBy w1 v.aI.ownBlock) (hloc:n_ w w1 v.aI v') (hown:∀us,w.ownsRow 0 29 1 v.aI S.fl.aI.length us→w1.ownsRow 0 29 1 v' (S.fl.aI.length+1) (us++[u])) :
  ∃L',aZ L w L' (w1.setCell ⟨i.fb,10,none⟩ v')∧bR w0 (w1.setCell ⟨i.fb,10,none⟩ v') L' i { v with aI:=v' } E { S with fl:={ S.fl with aI:=S.fl.aI++[a] } } nx tf tn cf cn:=by
 obtain⟨us,hr1,hr2,hr3⟩:=h.aI
 have hown:=hown _ hr1.1
 have p:=fU hr1 (fun x hx=>(h.hl x hx).2) hg hown hloc i.fb 116 h.oh h.yY (by decide) 10 v'
 have r:=h.rest p.kept p.FH p.sub p.sup
 refine⟨_,p.go,r.base,r.hl,r.vN,r.oh,r.Fg,r.Gb,r.Fy,r.maps,r.lT (p.out h.wu (by decide) (by decide)),by have:=p.cell _ h.file;exact this,r.rows,r.seen (p.rZ h.EG),r.taken (p.rZ h.EH),r.qN (p.rZ h.EI),r.au (fun g hg=>p.out (h.bY g hg) (by decide) (by decide)),⟨us++[u],by simpa using p.own,by simp [hr2],fun k x y hx hy=>by
  by_cases hk:k < us.length
  ·rw [List.getElem?_append_left hk] at hx;rw [List.getElem?_append_left (by omega)] at hy;exact (hr3 k x y hx hy).keep p.go
  rw [List.getElem?_append_right (by omega)] at hx hy
  rw [hr2] at hx
  rcases hd:k - S.fl.aI.length with _ | d
  ·rw [hd] at hx hy;simp at hx hy;subst hx hy;exact hu.keep p.go
  rw [hd] at hx;simp at hx⟩,r.cls (fun g hg=>p.out (h.eu g hg) (by decide) (by decide)),r.rls (fun g hg=>p.out (h.dQ g hg) (by decide) (by decide)),r.nxs (fun g hg=>p.out (h.kI g hg) (by decide) (by decide))⟩
theorem bR.oZ (h:bR w0 w L i v E S nx tf tn cf cn) (r0:Rl) (u:Value) (hu:FO w L u r0.next) (hg:w.grownBy w1 v.rls.ownBlock) (hloc:n_ w w1 v.rls v') (hown:∀rs:List (Rl×Value),rs.map (·.1)=S.fl.rls→w.ownsRow 0 31 7 v.rls rs.length (aK rs)→w1.ownsRow 0 31 7 v' (rs.length+1) (aK rs++aK [(r0,u)])) :
  ∃L',aZ L w L' (w1.setCell ⟨i.fb,12,none⟩ v')∧bR w0 (w1.setCell ⟨i.fb,12,none⟩ v') L' i { v with rls:=v' } E { S with fl:={ S.fl with rls:=S.fl.rls++[r0] } } nx tf tn cf cn:=by
 obtain⟨rs,hr0,hr1,hr3⟩:=h.rls
 have hown:=hown _ hr0 hr1.1
 have p:=fU hr1 (fun x hx=>(h.hl x hx).2) hg hown hloc i.fb 116 h.oh h.yY (by decide) 12 v'
 have r:=h.rest p.kept p.FH p.sub p.sup
 refine⟨_,p.go,r.base,r.hl,r.vN,r.oh,r.Fg,r.Gb,r.Fy,r.maps,r.lT (p.out h.wu (by decide) (by decide)),by have:=p.cell _ h.file;exact this,r.rows,r.seen (p.rZ h.EG),r.taken (p.rZ h.EH),r.qN (p.rZ h.EI),r.au (fun g hg=>p.out (h.bY g hg) (by decide) (by decide)),r.aI (fun g hg=>p.out (h.eP g hg) (by decide) (by decide)),r.cls (fun g hg=>p.out (h.eu g hg) (by decide) (by decide)),⟨rs++[(r0,u)],by simp [hr0],by have:=p.own;rw [show aK rs++aK [(r0,u)]=aK (rs++[(r0,u)]) by simp [aK]] at this;simpa using this,fun q hq=>by
  rcases List.mem_append.1 hq with h1 | h1
  ·exact (hr3 q h1).keep p.go
  simp at h1;subst h1;exact hu.keep p.go⟩,r.nxs (fun g hg=>p.out (h.kI g hg) (by decide) (by decide))⟩
end
def F5 (line c:Int):PanicEntry:={ v:=.iface 60 (.agg #[.int .i64 1,.int .i64 line,.int .i64 c]),recovered:=false }
def oC {α:Type} (line:Int) (w:World) (V:α→Value) (R:Except Int α) (e:Ending) (w':World):Prop :=
 Below w.heap.size w w'∧match R with
  | .ok a=>e=.returned (V a)
  | .error c=>e=.panicked [F5 line c]
def lX (b:Bool) (line c:Int) (w:World) (e:Ending) (w':World):Prop:=((b=true∧e=.returned (.tuple #[]))∨(b=false∧e=.panicked [F5 line c]))∧w=w'
theorem lX.ok (line c:Int) (w:World):lX true line c w (.returned (.tuple #[])) w:=⟨.inl ⟨rfl,rfl⟩,rfl⟩
theorem lX.bad (line c:Int) (w:World):lX false line c w (.panicked [F5 line c]) w:=⟨.inr ⟨rfl,rfl⟩,rfl⟩
theorem dW (rb:Nat) (line c:Int) (w:World) (h2:w.cell? ⟨rb,2,none⟩=some (.int .i64 line)) :
  Calls Tryz.prog 83 #[.pointer (some ⟨rb,0,none⟩),.int .i64 c] w (lX (c==0) line c w):=by
 by_cases h:c=0
 ·subst h
  go_enter Tryz.func83,Tryz.ntmps83
  go_wp2_with fail
  go_end0
  exact lX.ok _ _ _
 have hc:(c != 0)=true:=by simpa using h
 have hc2:(c==0)=false:=by simpa using h
 rw [hc2]
 go_enter Tryz.func83,Tryz.ntmps83
 go_wp2_with fail
 exact⟨rfl,lX.bad _ _ _⟩
theorem aY (rb:Nat) (line:Int) (b:Bool) (c:Int) (w:World) (hc:c≠0) (h2:w.cell? ⟨rb,2,none⟩=some (.int .i64 line)) :
  Calls Tryz.prog 46 #[.pointer (some ⟨rb,0,none⟩),.bool b,.int .i64 c] w (lX b line c w):=by
 have hc2:(c==0)=false:=by simpa using hc
 have HN:=hid (dW rb line c w h2);rw [hc2] at HN;clear hc hc2
 cases b
 ·go_enter Tryz.func46,Tryz.ntmps46
  go_wp2_with fail
  refine HN.o.mono ?_
  rintro e w' ⟨⟨h,-⟩ | ⟨-,rfl⟩,rfl⟩
  ·cases h
  exact⟨rfl,lX.bad _ _ _⟩
 go_enter Tryz.func46,Tryz.ntmps46
 go_wp2_with fail
 go_end0
 exact lX.ok _ _ _
def pX (s:ByteArray) (most:Int):Except Int Int:=if bI s.data.toList most≠0 then .error 13 else .ok (aJ s.data.toList most)
theorem dK (l:List UInt8) (m:Int):bI l m=0∨bI l m=13:=by unfold bI;split<;>simp
theorem l6 (rb:Nat) (line:Int) (s:ByteArray) (most:Int) (w:World) (hs:s.size≤maxLen) (h1:-9223372036854775808≤most) (h3:most≤9223372036854775807) (h2:w.cell? ⟨rb,2,none⟩=some (.int .i64 line)) :
  Calls Tryz.prog 114 #[.pointer (some ⟨rb,0,none⟩),.string s,.int .i64 most] w (oC line w (Value.int .i64) (pX s most)):=by
 have HN:=hid (nu s most w hs h1 h3)
 unfold pX
 rcases dK s.data.toList most with h | h
 all_goals
  rw [h];have HE:=hid h;clear h
  go_enter Tryz.func114,Tryz.ntmps114
  go_wp2_with fail
  refine HN.o.mono ?_
  rintro e w' ⟨he,rfl⟩
  rw [dw,HE.o] at he
  subst he
  go_wp2_with fail
  refine (dW rb line _ _ h2).mono ?_
  first
   | (rintro e w' ⟨⟨-,rfl⟩ | ⟨h,-⟩,rfl⟩
      ·go_wp2_with fail
       go_ret
       exact⟨Below.refl _ _,rfl⟩
      exact absurd h (by decide))
   | (rintro e w' ⟨⟨h,-⟩ | ⟨-,rfl⟩,rfl⟩
      ·exact absurd h (by decide)
      exact⟨rfl,Below.refl _ _,rfl⟩)
theorem kS (rb:Nat) (line:Int) (s:ByteArray) (w:World) (hs:s.size≤140737488355328) (h2:w.cell? ⟨rb,2,none⟩=some (.int .i64 line)) :
  Calls Tryz.prog 111 #[.pointer (some ⟨rb,0,none⟩),.string s] w (lX (fitAll s) line 21 w):=by
 go_enter Tryz.func111,Tryz.ntmps111
 go_wp2_with fail
 go_loop [4,7] (fun _ i=>∃k:Nat,k≤s.size∧i=.int .i64 k∧Hid ((s.data.toList.take k).all lC=true)) (fun _ i=>s.size - (intOf i).toNat)
 case atStart=>exact⟨0,Nat.zero_le _,rfl,hid rfl⟩
 case round =>
 obtain⟨k,hk,rfl,HT⟩:=hrel
 by_cases hlt:k < s.size
 ·cases hf:lC s[k]
  ·have HN:=hid (xZ s k hlt hf)
   have HF:=hid hf;clear hf
   go_wp2_with (first | (go_at_call 85;refine (qC s k hlt _).mono ?_;rw [HF.o];rintro e w' ⟨rfl,rfl⟩))
   refine (aY rb line _ _ _ (by decide) h2).mono ?_
   rintro e w' ⟨⟨h,-⟩ | ⟨-,rfl⟩,rfl⟩
   ·cases h
   exact⟨rfl,.inr ⟨HN.o,rfl⟩,rfl⟩
  have HN:=hid (pI s k hlt hf HT.o);have HF:=hid hf;clear hf
  go_wp2_with (first | (go_at_call 85;refine (qC s k hlt _).mono ?_;rw [HF.o];rintro e w' ⟨rfl,rfl⟩))
  refine (aY rb line _ _ _ (by decide) h2).mono ?_
  rintro e w' ⟨⟨-,rfl⟩ | ⟨h,-⟩,rfl⟩
  ·go_wp2_with fail
   go_round
   case rel=>exact⟨k+1,by omega,by go_num,HN⟩
   case measure=>simp [intOf];omega
  cases h
 obtain rfl:k=s.size:=by omega
 have HN:=hid (pJ s HT.o)
 go_wp2_with fail
 go_end0
 exact⟨.inl ⟨HN.o,rfl⟩,rfl⟩
def r9 (s:ByteArray):Except Int ByteArray:=if jX s≠0 then .error (jX s) else .ok s
theorem Cx (rb:Nat) (line:Int) (s:ByteArray) (w:World) (hs:s.size≤140737488355328) (h2:w.cell? ⟨rb,2,none⟩=some (.int .i64 line)) :
  Calls Tryz.prog 151 #[.pointer (some ⟨rb,0,none⟩),.string s] w (oC line w Value.string (r9 s)):=by
 cases hf:fitAll s
 ·have HR:Hid (r9 s=.error 21):=hid (by unfold r9 jX;rw [hf];simp)
  have HF:=hid hf;clear hf
  go_enter Tryz.func151,Tryz.ntmps151
  go_wp2_with fail
  refine (kS rb line s _ hs h2).mono ?_
  rw [HF.o]
  rintro e w' ⟨⟨h,-⟩ | ⟨-,rfl⟩,rfl⟩
  ·cases h
  rw [HR.o];exact⟨rfl,Below.refl _ _,rfl⟩
 by_cases h0:s.size=0
 ·have hse:s=⟨#[]⟩:=by apply ByteArray.ext;exact Array.eq_empty_of_size_eq_zero h0
  subst hse
  have HR:Hid (r9 ⟨#[]⟩=.error 21):=hid (by rfl)
  have HF:=hid hf;clear hf
  go_enter Tryz.func151,Tryz.ntmps151
  go_wp2_with fail
  refine (kS rb line _ _ hs h2).mono ?_
  rw [HF.o]
  rintro e w' ⟨⟨-,rfl⟩ | ⟨h,-⟩,rfl⟩
  ·go_wp2_with fail
   refine (aY rb line _ _ _ (by decide) h2).mono ?_
   rintro e w' ⟨⟨h,-⟩ | ⟨-,rfl⟩,rfl⟩
   ·cases h
   rw [HR.o];exact⟨rfl,Below.refl _ _,rfl⟩
  cases h
 have hne:=iY s (by omega)
 by_cases h3:s.size≤32
 ·have HR:Hid (r9 s=.ok s):=hid (by unfold r9 jX;rw [hf,if_neg (show ¬(s.size=0∨true=false) from fun h=>h.elim h0 (fun h=>by cases h)),if_neg (show ¬32 < s.size by omega)];rfl)
  have HF:=hid hf;clear hf
  go_enter Tryz.func151,Tryz.ntmps151
  go_wp2_with fail
  refine (kS rb line s _ hs h2).mono ?_
  rw [HF.o]
  rintro e w' ⟨⟨-,rfl⟩ | ⟨h,-⟩,rfl⟩
  ·go_wp2_with fail
   refine (aY rb line _ _ _ (by decide) h2).mono ?_
   rintro e w' ⟨⟨-,rfl⟩ | ⟨h,-⟩,rfl⟩
   ·go_wp2_with fail
    refine (aY rb line _ _ _ (by decide) h2).mono ?_
    rintro e w' ⟨⟨-,rfl⟩ | ⟨h,-⟩,rfl⟩
    ·go_wp2_with fail
     go_ret
     rw [HR.o];exact⟨Below.refl _ _,rfl⟩
    exact absurd h (by simp;omega)
   exact absurd h (by simp)
  cases h
 have HR:Hid (r9 s=.error 22):=hid (by unfold r9 jX;rw [hf,if_neg (show ¬(s.size=0∨true=false) from fun h=>h.elim h0 (fun h=>by cases h)),if_pos (show 32 < s.size by omega)];rfl)
 have HF:=hid hf;clear hf
 go_enter Tryz.func151,Tryz.ntmps151
 go_wp2_with fail
 refine (kS rb line s _ hs h2).mono ?_
 rw [HF.o]
 rintro e w' ⟨⟨-,rfl⟩ | ⟨h,-⟩,rfl⟩
 ·go_wp2_with fail
  refine (aY rb line _ _ _ (by decide) h2).mono ?_
  rintro e w' ⟨⟨-,rfl⟩ | ⟨h,-⟩,rfl⟩
  ·go_wp2_with fail
   refine (aY rb line _ _ _ (by decide) h2).mono ?_
   rintro e w' ⟨⟨h,-⟩ | ⟨-,rfl⟩,rfl⟩
   ·exact absurd h (by simp;omega)
   rw [HR.o];exact⟨rfl,Below.refl _ _,rfl⟩
  exact absurd h (by simp)
 cases h
def jC (b:UInt8):Bool:=decide (b.toNat=92∨b.toNat=47∨b.toNat=35)
theorem Br (b:UInt8) (w:World):Calls Tryz.prog 120 #[.int .u8 b.toNat] w fun e w'=>e=.returned (.bool (jC b))∧w=w':=by
 by_cases h1:b.toNat=92
 ·have e1:((b.toNat:Int)==92)=true:=by rw [h1];rfl
  have HR:Hid (jC b=true):=hid (by unfold jC;simp [h1])
  clear h1
  go_enter Tryz.func120,Tryz.ntmps120
  go_wp2_with fail
  go_ret
  exact⟨bE HR.o.symm,rfl⟩
 have e1:((b.toNat:Int)==92)=false:=by rw [beq_eq_false_iff_ne];omega
 by_cases h2:b.toNat=47
 ·have e2:((b.toNat:Int)==47)=true:=by rw [h2];rfl
  have HR:Hid (jC b=true):=hid (by unfold jC;simp [h2])
  clear h1 h2
  go_enter Tryz.func120,Tryz.ntmps120
  go_wp2_with fail
  go_ret
  exact⟨bE HR.o.symm,rfl⟩
 have e2:((b.toNat:Int)==47)=false:=by rw [beq_eq_false_iff_ne];omega
 by_cases h3:b.toNat=35
 ·have e3:((b.toNat:Int)==35)=true:=by rw [h3];rfl
  have HR:Hid (jC b=true):=hid (by unfold jC;simp [h3])
  clear h1 h2 h3
  go_enter Tryz.func120,Tryz.ntmps120
  go_wp2_with fail
  go_ret
  exact⟨bE HR.o.symm,rfl⟩
 have e3:((b.toNat:Int)==35)=false:=by rw [beq_eq_false_iff_ne];omega
 have HR:Hid (jC b=false):=hid (by unfold jC;simp [h1,h2,h3])
 clear h1 h2 h3
 go_enter Tryz.func120,Tryz.ntmps120
 go_wp2_with fail
 go_ret
 exact⟨bE HR.o.symm,rfl⟩
def jY (r:List UInt8×List UInt8×Bool×Int):Value:=.tuple #[.string (mkS r.1),.string (mkS r.2.1),.bool r.2.2.1,.int .i64 r.2.2.2]
def zl (s:ByteArray) (k:Nat) (acc:List UInt8):Prop:=Bp acc (s.data.toList.drop k)=eB s.data.toList∧acc.length≤k
theorem zl.start (s:ByteArray):zl s 0 []:=⟨rfl,Nat.le_refl _⟩
theorem zl.slash {s:ByteArray} {k:Nat} {acc:List UInt8} (h:zl s k acc) (hk:k < s.size) (hb:s[k].toNat=47):eB s.data.toList=(acc,(s.extract (k+1) s.size).data.toList,true,0):=by
 rw [←h.1,drop_cons s k hk,uP _ _ _ hb,Lib.extract_to_end]
theorem zl.more {s:ByteArray} {k:Nat} {acc:List UInt8} (h:zl s k acc) (hk:k < s.size) (hb:s[k].toNat≠47) (hb':s[k].toNat≠92):zl s (k+1) (acc++[s[k]]) :=
 ⟨by rw [←h.1,drop_cons s k hk,lF _ _ _ hb hb'],by have:=h.2;simp;omega⟩
theorem zl.last {s:ByteArray} {k:Nat} {acc:List UInt8} (h:zl s k acc) (hk:k < s.size) (hb:s[k].toNat=92) (he:¬k+1 < s.size):eB s.data.toList=([],[],false,20):=by
 rw [←h.1,drop_cons s k hk,List.drop_of_length_le (by simp;omega),I8 _ _ hb]
theorem zl.bad {s:ByteArray} {k:Nat} {acc:List UInt8} (h:zl s k acc) (hk:k < s.size) (hb:s[k].toNat=92) (he:k+1 < s.size) (hm:jC s[k+1]=false):eB s.data.toList=([],[],false,20):=by
 rw [←h.1,drop_cons s k hk,drop_cons s (k+1) he,I_ _ _ _ _ hb (by unfold jC at hm;simpa using hm)]
theorem zl.esc {s:ByteArray} {k:Nat} {acc:List UInt8} (h:zl s k acc) (hk:k < s.size) (hb:s[k].toNat=92) (he:k+1 < s.size) (hm:jC s[k+1]=true):zl s (k+1+1) (acc++[s[k+1]]) :=
 ⟨by rw [←h.1,drop_cons s k hk,drop_cons s (k+1) he,I9 _ _ _ _ hb (by unfold jC at hm;simpa using hm)],by have:=h.2;simp;omega⟩
theorem zl.done {s:ByteArray} {acc:List UInt8} (h:zl s s.size acc):eB s.data.toList=(acc,[],false,0):=by
 rw [←h.1,iC,wM]
theorem xY (s:ByteArray) (w:World) (hs:s.size≤1048576) :
  Calls Tryz.prog 84 #[.string s] w fun e w'=>e=.returned (jY (eB s.data.toList))∧Below w.heap.size w w':=by
 go_enter Tryz.func84,Tryz.ntmps84
 go_wp2_with fail
 go_loopw [7] (fun i W=>∃(k:Nat) (acc:List UInt8),k≤s.size∧i=.int .i64 k∧Hid (zl s k acc)∧Hid (IZ w.heap.size w.heap.size (byteCells acc) W)∧Hid (Below w.heap.size w W)∧w.heap.size≤W.heap.size) (fun i _=>s.size - (intOf i).toNat)
 case atStart=>exact⟨0,[],Nat.zero_le _,rfl,zl.start s,Bc w,(Below.refl _ _).alloc (Nat.le_refl _) _,by simp⟩
 case round =>
 obtain⟨k,acc,hk,rfl,HW,HI,HB,hsz⟩:=hrel
 have HL:=hid HW.o.2
 by_cases hlt:k < s.size
 ·by_cases h1:s[k].toNat=47
  ·have e1:((s[k].toNat:Int)==47)=true:=by rw [h1];rfl
   have HR:=hid (HW.o.slash hlt h1)
   have hsum:IntKind.i64.wrap ((k:Int)+1)=(k:Int)+1:=by rw [IntKind.wrap_i64];omega
   clear h1
   go_wp2_with fail
   have HI2:=hid (show IZ w.heap.size w.heap.size (byteCells acc) wr.drew from HI.o)
   go_region_with (go_at_call 119;refine (jl _ _ acc _ HI2.o hsz).mono ?_;rintro e w' ⟨rfl,h2⟩;have HO:=hid (HB.o.drew.trans h2);clear h2)
   all_goals
    go_wp2_with fail
    refine bodyPost_ret (v:=.tuple #[.string ⟨acc.toArray⟩,.string (s.extract (k+1) s.size),.bool true,.int .i64 0]) (by simp [results,Tryz.results84,go_sem]) rfl ?_
    rw [HR.o]
    exact⟨rfl,HO.o⟩
  have e1:((s[k].toNat:Int)==47)=false:=by rw [beq_eq_false_iff_ne];omega
  by_cases h2:s[k].toNat=92
  ·have e2:((s[k].toNat:Int)==92)=true:=by rw [h2];rfl
   by_cases h3:k+1 < s.size
   ·have e3:(((k:Int)+1)==(s.size:Int))=false:=by rw [beq_eq_false_iff_ne];omega
    cases hm:jC s[k+1]
    ·have HR:=hid (HW.o.bad hlt h2 h3 hm)
     have HM:=hid hm;clear h1 h2 hm
     go_wp2_with (first | (go_at_call 120;refine (Br _ _).mono ?_;rw [HM.o];rintro e w' ⟨rfl,rfl⟩))
     refine bodyPost_ret (v:=jY ([],[],false,20)) (by simp [results,Tryz.results84,go_sem];rfl) rfl ?_
     rw [HR.o]
     exact⟨rfl,HB.o⟩
    have HR:=hid (HW.o.esc hlt h2 h3 hm);have HM:=hid hm;clear h1 h2 hm
    go_wp2_with (first
     | (go_at_call 120;refine (Br _ _).mono ?_;rw [HM.o];rintro e w' ⟨rfl,rfl⟩)
     | (go_at_call 121;refine (mF _ _ _ _ _ HI.o (by have:=HL.o;simp [byteCells];omega) hsz).mono ?_;rintro e w' ⟨rfl,h1,h2⟩;have HO:=hid (show IZ w.heap.size w.heap.size (byteCells (acc++[s[k+1]])) w' by rw [←eD];exact h1.is);have HB2:=hid (HB.o.trans h2);clear h1 h2))
    go_roundw
    case rel=>exact⟨k+1+1,_,by omega,by go_num,HR,HO,HB2,HB2.o.size⟩
    case measure=>simp [intOf];omega
   have e3:(((k:Int)+1)==(s.size:Int))=true:=by rw [beq_iff_eq];omega
   have HR:=hid (HW.o.last hlt h2 h3);clear h1 h2
   go_wp2_with fail
   refine bodyPost_ret (v:=jY ([],[],false,20)) (by simp [results,Tryz.results84,go_sem];rfl) rfl ?_
   rw [HR.o]
   exact⟨rfl,HB.o⟩
  have e2:((s[k].toNat:Int)==92)=false:=by rw [beq_eq_false_iff_ne];omega
  have HR:=hid (HW.o.more hlt h1 h2);clear h1 h2
  go_wp2_with (first
   | (go_at_call 121;refine (mF _ _ _ _ _ HI.o (by have:=HL.o;simp [byteCells];omega) hsz).mono ?_;rintro e w' ⟨rfl,h1,h2⟩;have HO:=hid (show IZ w.heap.size w.heap.size (byteCells (acc++[s[k]])) w' by rw [←eD];exact h1.is);have HB2:=hid (HB.o.trans h2);clear h1 h2))
  go_roundw
  case rel=>exact⟨k+1,_,by omega,by go_num,HR,HO,HB2,HB2.o.size⟩
  case measure=>simp [intOf];omega
 obtain rfl:k=s.size:=by omega
 have HR:=hid HW.o.done
 go_wp2_with (first
  | (go_at_call 119;refine (jl _ _ acc _ HI.o hsz).mono ?_;rintro e w' ⟨rfl,h2⟩;have HO:=hid (HB.o.trans h2);clear h2))
 refine bodyPost_ret (v:=jY (acc,[],false,0)) (by simp [results,Tryz.results84,go_sem];rfl) rfl ?_
 rw [HR.o]
 exact⟨rfl,HO.o⟩
theorem Cy:∀(n:Nat) (acc l:List UInt8),l.length≤n→(Bp acc l).1.length≤acc.length+l.length∧(Bp acc l).2.1.length≤l.length
 | n,acc,[],_=>by rw [wM];simp
 | 0,acc,b::l,h=>by simp at h
 | n+1,acc,b::l,h=>by
   have hl:l.length≤n:=by simp at h;exact h
   by_cases h1:b.toNat=47
   ·rw [uP _ _ _ h1];simp
   ·by_cases h2:b.toNat=92
    ·rcases l with _ | ⟨c,l⟩
     ·rw [I8 _ _ h2];simp
     ·by_cases h3:c.toNat=92∨c.toNat=47∨c.toNat=35
      ·rw [I9 _ _ _ _ h2 h3]
       have:=Cy n (acc++[c]) l (by simp at hl;omega)
       simp at this ⊢;omega
      ·rw [I_ _ _ _ _ h2 h3];simp
    ·rw [lF _ _ _ h1 h2]
     have:=Cy n (acc++[b]) l hl
     simp at this ⊢;omega
theorem iM (l:List UInt8):(eB l).1.length≤l.length∧(eB l).2.1.length≤l.length:=by
 have:=Cy l.length [] l (Nat.le_refl _)
 simpa [eB] using this
theorem gM (s:ByteArray) (l:List UInt8) (h:s≠⟨l.toArray⟩):(s.toList==l)=false:=by
 rw [beq_eq_false_iff_ne]
 intro e
 exact h ((mI l s).2 e.symm).symm
theorem iR {rb:Nat} {line:Int} {w w':World} (h:w.cell? ⟨rb,2,none⟩=some (.int .i64 line)) (hb:Below w.heap.size w w'):w'.cell? ⟨rb,2,none⟩=some (.int .i64 line) :=
 (hb.cell (block_lt_of_cell? w _ h)).trans h
theorem tQ (rb:Nat) (line:Int) (s:ByteArray) (w:World) (hs:s.size≤1048576) (h2:w.cell? ⟨rb,2,none⟩=some (.int .i64 line)) :
  Calls Tryz.prog 116 #[.pointer (some ⟨rb,0,none⟩),.string s] w (oC line w Value.string (bL false s)):=by
 have hw:=xY s w hs
 have hl:=(iM s.data.toList).1;rw [ak] at hl;unfold bL
 rw [if_neg (by simp)]
 obtain⟨⟨W,R,C,e⟩,hR⟩:∃r,eB s.data.toList=r:=⟨_,rfl⟩;rw [hR] at hw hl ⊢;have HW:=hid hw;have H2:=hid h2;clear hw hR h2;unfold jY at HW;dsimp only at HW hl ⊢
 by_cases he:e=0
 ·subst he
  cases C
  ·rw [if_neg (by simp),if_neg (by simp)]
   have HF:Hid (∀W',Below w.heap.size w W'→Calls Tryz.prog 151 #[.pointer (some ⟨rb,0,none⟩),.string (mkS W)] W' (oC line W' Value.string (r9 (mkS W)))):=hid (fun W' hb=>Cx rb line (mkS W) W' (by rw [aG];omega) (iR H2.o hb))
   have HR:Hid (r9 (mkS W)=if jX (mkS W)≠0 then .error (jX (mkS W)) else .ok (mkS W)):=hid rfl
   rw [←HR.o]
   go_enter Tryz.func116,Tryz.ntmps116
   go_wp2_with fail
   refine HW.o.mono ?_
   rintro e w1 ⟨rfl,hb1⟩
   have HB1:=hid hb1;clear hb1
   go_wp2_with fail
   refine (dW rb line 0 _ (iR H2.o HB1.o)).mono ?_
   rintro e w' ⟨⟨-,rfl⟩ | ⟨h,-⟩,rfl⟩
   ·go_wp2_with fail
    refine (aY rb line _ _ _ (by decide) (iR H2.o HB1.o)).mono ?_
    rintro e w' ⟨⟨-,rfl⟩ | ⟨h,-⟩,rfl⟩
    ·go_wp2_with fail
     refine (HF.o _ HB1.o).mono ?_
     cases hq:r9 (mkS W)
     ·rintro e w2 ⟨hb2,rfl⟩
      exact⟨rfl,HB1.o.trans (hb2.mono HB1.o.size),rfl⟩
     rintro e w2 ⟨hb2,rfl⟩
     have HB2:=hid (HB1.o.trans (hb2.mono HB1.o.size));have HQ:=hid hq;clear hb2 hq
     go_wp2_with fail
     go_ret
     exact⟨HB2.o,by rw [HQ.o];rfl⟩
    exact absurd h (by decide)
   exact absurd h (by decide)
  rw [if_neg (by simp),if_pos rfl]
  go_enter Tryz.func116,Tryz.ntmps116
  go_wp2_with fail
  refine HW.o.mono ?_
  rintro e w1 ⟨rfl,hb1⟩
  have HB1:=hid hb1;clear hb1
  go_wp2_with fail
  refine (dW rb line 0 _ (iR H2.o HB1.o)).mono ?_
  rintro e w' ⟨⟨-,rfl⟩ | ⟨h,-⟩,rfl⟩
  ·go_wp2_with fail
   refine (aY rb line _ _ _ (by decide) (iR H2.o HB1.o)).mono ?_
   rintro e w' ⟨⟨h,-⟩ | ⟨-,rfl⟩,rfl⟩
   ·exact absurd h (by decide)
   exact⟨rfl,HB1.o,rfl⟩
  exact absurd h (by decide)
 have he2:(e==0)=false:=by simpa using he
 rw [if_pos he];have HE:=hid he2;clear he he2
 go_enter Tryz.func116,Tryz.ntmps116
 go_wp2_with fail
 refine HW.o.mono ?_
 rintro e' w1 ⟨rfl,hb1⟩
 have HB1:=hid hb1;clear hb1
 go_wp2_with fail
 refine (dW rb line e _ (iR H2.o HB1.o)).mono ?_
 rw [HE.o]
 rintro e' w' ⟨⟨h,-⟩ | ⟨-,rfl⟩,rfl⟩
 ·cases h
 exact⟨rfl,HB1.o,rfl⟩
theorem g_ (rb:Nat) (line:Int) (s:ByteArray) (w:World) (hs:s.size≤1048576) (h2:w.cell? ⟨rb,2,none⟩=some (.int .i64 line)) :
  Calls Tryz.prog 117 #[.pointer (some ⟨rb,0,none⟩),.string s] w (oC line w Value.string (bL true s)):=by
 by_cases h:s=⟨#[48]⟩
 ·have HR:Hid (bL true s=.ok ⟨#[]⟩):=hid (by unfold bL;rw [if_pos ⟨rfl,h⟩])
  subst h
  go_enter Tryz.func117,Tryz.ntmps117
  go_wp2_with fail
  go_ret
  exact⟨Below.refl _ _,by rw [HR.o];rfl⟩
 have HR:Hid (bL true s=bL false s):=hid (by unfold bL;rw [if_neg (fun hh=>h hh.2),if_neg (by simp)])
 have HP:=hid (tQ rb line s w hs h2);have hz:=gM s [48] h;rw [HR.o];clear h2 h
 go_enter Tryz.func117,Tryz.ntmps117
 go_wp2_with fail
 refine HP.o.mono ?_
 cases hq:bL false s
 ·rintro e w2 ⟨hb2,rfl⟩
  exact⟨rfl,hb2,rfl⟩
 rintro e w2 ⟨hb2,rfl⟩
 have HB2:=hid hb2;have HQ:=hid hq;clear hb2 hq
 go_wp2_with fail
 go_ret
 exact⟨HB2.o,by rw [HQ.o];rfl⟩
theorem yP (kind:Int) (l:List UInt8) (h:(jv kind l).2=0):(jv kind l).1≠0:=by
 unfold jv at h ⊢
 split at h
 ·split at h
  ·cases h
  rename_i h1 h2;rw [if_pos h1,if_neg h2];exact h2
 cases h
theorem EL (w0:World) (L:List Nat) (i:Ids) (E:Int) (kh k:Nat) (S:Sx) (s:ByteArray) (w:World) (h:RM w0 w L i E kh k S) (hs:s.size≤1048576) :
  Calls Tryz.prog 113 #[.pointer (some ⟨i.rb,0,none⟩),.string s] w (oC S.line w (Value.int .u16) (gq S.fl s)):=by
 obtain⟨hbd,v,hm⟩:=h
 have hO:=RS S.fl.kind s w (by unfold maxLen;omega)
 obtain⟨b0,b1⟩:=BH S.fl.kind s.data.toList;have hz:=yP S.fl.kind s.data.toList;unfold gq;obtain⟨⟨f,e⟩,hF⟩:∃r,jv S.fl.kind s.data.toList=r:=⟨_,rfl⟩;rw [hF] at hO b0 b1 hz ⊢;dsimp only at hO b0 b1 hz ⊢;have HO:=hid hO;have HM:=hid hm;have c0:=hm.r0;have g0:=hm.f0;clear hO hF hm hbd
 by_cases he:e=0
 ·subst he
  have hf0:=hz rfl
  rw [if_neg (by simp)]
  clear hz
  have HT:Hid (cB S.fl f=if aM S.fl f=true then 1 else 0):=hid (by unfold cB;rw [if_neg hf0])
  cases hq:aM S.fl f
  ·have HQ:=hid hq
   clear hq hf0
   rw [if_neg (by simp)]
   go_enter Tryz.func113,Tryz.ntmps113
   go_wp2_with fail
   refine HO.o.mono ?_
   rintro e w1 ⟨rfl,n,hw⟩
   have HB:Hid (Below w.heap.size w w1):=hid (by rw [hw];exact below_drewN (Below.refl _ _) n)
   clear hw
   go_wp2_with fail
   refine (dW i.rb S.line 0 _ (HM.o.below HB.o).r2).mono ?_
   rintro e w' ⟨⟨-,rfl⟩ | ⟨h,-⟩,rfl⟩
   ·have c5:=(HM.o.below HB.o).r5
    have hlk:=(HM.o.below HB.o).taken.look f ⟨b0,b1⟩
    rw [HT.o,HQ.o,if_neg (by simp)] at hlk
    go_wp2_with fail
    refine (aY i.rb S.line _ _ _ (by decide) (HM.o.below HB.o).r2).mono ?_
    rintro e w' ⟨⟨-,rfl⟩ | ⟨h,-⟩,rfl⟩
    ·go_wp2_with fail
     go_ret
     exact⟨HB.o,rfl⟩
    exact absurd h (by decide)
   exact absurd h (by decide)
  have HQ:=hid hq;clear hq hf0;rw [if_pos rfl]
  go_enter Tryz.func113,Tryz.ntmps113
  go_wp2_with fail
  refine HO.o.mono ?_
  rintro e w1 ⟨rfl,n,hw⟩
  have HB:Hid (Below w.heap.size w w1):=hid (by rw [hw];exact below_drewN (Below.refl _ _) n)
  clear hw
  go_wp2_with fail
  refine (dW i.rb S.line 0 _ (HM.o.below HB.o).r2).mono ?_
  rintro e w' ⟨⟨-,rfl⟩ | ⟨h,-⟩,rfl⟩
  ·have c5:=(HM.o.below HB.o).r5
   have hlk:=(HM.o.below HB.o).taken.look f ⟨b0,b1⟩;rw [HT.o,HQ.o,if_pos rfl] at hlk
   go_wp2_with fail
   refine (aY i.rb S.line _ _ _ (by decide) (HM.o.below HB.o).r2).mono ?_
   rintro e w' ⟨⟨h,-⟩ | ⟨-,rfl⟩,rfl⟩
   ·exact absurd h (by decide)
   exact⟨rfl,HB.o,rfl⟩
  exact absurd h (by decide)
 have he2:(e==0)=false:=by simpa using he
 rw [if_pos he];have HE:=hid he2;clear he he2 hz
 go_enter Tryz.func113,Tryz.ntmps113
 go_wp2_with fail
 refine HO.o.mono ?_
 rintro e' w1 ⟨rfl,n,hw⟩
 have HB:Hid (Below w.heap.size w w1):=hid (by rw [hw];exact below_drewN (Below.refl _ _) n)
 clear hw
 go_wp2_with fail
 refine (dW i.rb S.line e _ (HM.o.below HB.o).r2).mono ?_
 rw [HE.o]
 rintro e' w' ⟨⟨h,-⟩ | ⟨-,rfl⟩,rfl⟩
 ·cases h
 exact⟨rfl,HB.o,rfl⟩
theorem rQ {w0:World} {v:Value} {l:Int} {row:List ByteArray} {rest:List Row} (h:gB w0 v ((l,row)::rest)) :
  ∃g o cap fv,v=.slice (some ⟨g,o,none⟩) (rest.length+1) cap∧rest.length+1≤cap∧w0.cell? ⟨g,o,none⟩=some (.int .i64 l)∧w0.cell? ⟨g,o+1,none⟩=some fv∧Rd w0 1 fv row.length (bn row) ∧
   gB w0 (.slice (some ⟨g,o+2,none⟩) rest.length (cap - 1)) rest∧(rest.length=0→∀p c,gB w0 (.slice p 0 c) rest):=by
 obtain⟨rs,ha,hr,hd⟩:=h
 rcases rs with _ | ⟨r0,rs⟩
 ·simp [dP] at ha
 have ha2:(r0.1,r0.2.2)::dP rs=(l,row)::rest:=by simpa [dP] using ha
 injection ha2 with h1 h2
 injection h1 with h3 h4
 subst h3 h4
 have hlen:rest.length=rs.length:=by rw [←h2];simp [dP]
 obtain⟨hl,A,cap,rfl,hcap,hc⟩:=hr
 obtain⟨g,o,rfl,hc2⟩:=hc.resolve_left (by simp)
 have hcs:bq (r0::rs)=.int .i64 r0.1::r0.2.1::bq rs:=by simp [bq]
 rw [hcs] at hc2
 refine⟨g,o,cap,r0.2.1,by rw [hlen];rfl,by rw [hlen];exact hcap,by simpa using hc2 0 _ rfl,by simpa using hc2 1 _ rfl,(hd r0 (by simp)).rd,⟨rs,h2,⟨?_,some ⟨g,o+2,none⟩,cap - 1,by rw [hlen],by simp at hcap;omega,.inr ⟨g,o+2,rfl,fun j u hj=>?_⟩⟩,fun r hr=>hd r (by simp [hr])⟩,fun h0 p c=>⟨[],by rw [←h2,List.eq_nil_of_length_eq_zero (hlen.symm.trans h0)],⟨rfl,p,c,rfl,Nat.zero_le _,.inl rfl⟩,fun r hr=>by cases hr⟩⟩
 ·have:(bq (r0::rs)).length=(r0::rs).length*2:=hl
  rw [hcs] at this;simp at this ⊢
  omega
 have:=hc2 (j+2) u (by simpa using hj)
 rwa [show o+(j+2)=o+2+j by omega] at this
theorem Bd.take {kh k:Nat} {S:Sx} {l:Int} {row:List ByteArray} {rest:List Row} (h:Bd kh k S) (hr:S.rows=(l,row)::rest):Bd (kh+1) (k+1) { S with rows:=rest,line:=l }:=by
 have hlen:S.rows.length=rest.length+1:=by rw [hr];rfl
 have h1:=h.heads;have h2:=h.au;have h3:=h.aI;have h4:=h.cls;have h5:=h.rls
 have hrow:=h.row (l,row) (by rw [hr];simp)
 rw [hlen] at h1 h2 h3 h4 h5
 exact⟨fun r hrr=>h.row r (by rw [hr];simp [hrr]),by show S.heads.length+rest.length+(kh+1)≤65536;omega,h.vM,by show S.fl.au.length+rest.length+(k+1)≤65536;omega,by show S.fl.aI.length+rest.length+(k+1)≤65536;omega,by show S.fl.cls.length+rest.length+(k+1)≤65536;omega,by show S.fl.rls.length+rest.length+(k+1)≤65536;omega,h.flags,h.sets,h.nexts,h.kind,h.sp,⟨hrow.2.2.2.1,by have:=hrow.2.2.2.2;show l≤_;omega⟩⟩
theorem Iz (w0:World) (L:List Nat) (i:Ids) (E:Int) (kh k:Nat) (S:Sx) (l:Int) (row:List ByteArray) (rest:List Row) (w:World) (h:RM w0 w L i E kh k S) (hr:S.rows=(l,row)::rest) :
  Calls Tryz.prog 45 #[.pointer (some ⟨i.rb,0,none⟩)] w fun e w'=>∃fv,e=.returned fv∧Rd w0 1 fv row.length (bn row)∧RM w0 w' L i E (kh+1) (k+1) { S with rows:=rest,line:=l }∧aZ L w L w':=by
 obtain⟨hbd,v,hm⟩:=h
 have hrows:=hm.rows;rw [hr] at hrows;obtain⟨g,o,cap,fv,hv,hcap,hc0,hc1,hfv,hr1,hr2⟩:=rQ hrows
 have hlen:rest.length+1≤65536:=by have:=hbd.heads;rw [hr] at this;simp at this;omega
 have d0:=(hm.base.cell (block_lt_of_cell? w0 _ hc0)).trans hc0;have d1:=(hm.base.cell (block_lt_of_cell? w0 _ hc1)).trans hc1;have c1:=hm.r1;rw [hv] at c1;have c2:=hm.r2;have z1:=hm.rz 1;have z2:=hm.rz 2;have hlt:i.rb < w.heap.size:=(hm.hl _ hm.vN).2
 have hne:¬i.rb=w.heap.size:=by omega
 have hne2:¬w.heap.size=i.rb:=by omega
 have HM:=hid hm;have HBD:=hid (hbd.take hr);have HR1:=hid hr1;have HR2:=hid hr2;have HF:=hid hfv;obtain⟨-,A,cp,rfl,-,-⟩:=hfv;clear hm hbd hr1 hr2 hrows hr hc0 hc1 hv
 have key:∀u,gB w0 u rest→RM w0 (((w.setCell ⟨i.rb,1,none⟩ u).setCell ⟨i.rb,2,none⟩ (.int .i64 l)).alloc (.cells #[.int .i64 l,.slice A row.length cp] 133)) L i E (kh+1) (k+1) { S with rows:=rest,line:=l } ∧
   aZ L w L (((w.setCell ⟨i.rb,1,none⟩ u).setCell ⟨i.rb,2,none⟩ (.int .i64 l)).alloc (.cells #[.int .i64 l,.slice A row.length cp] 133)):=by
  intro u hu
  have hb:=(Below.refl _ ((w.setCell ⟨i.rb,1,none⟩ u).setCell ⟨i.rb,2,none⟩ (.int .i64 l))).alloc (Nat.le_refl _) (.cells #[.int .i64 l,.slice A row.length cp] 133)
  exact⟨⟨HBD.o,_,((HM.o.setRows u rest hu).lU l).below hb⟩,⟨(((Kept.refl L w).set _ _ _ (.inl HM.o.vN)).set _ _ _ (.inl HM.o.vN)).trans (Kept.of_below hb),fun x hx=>.inl hx⟩⟩
 have KEY:=hid key;clear key
 by_cases hcc:cap=1
 ·go_enter Tryz.func45,Tryz.ntmps45
  go_wp2_with fail
  go_ret
  have h0:rest.length=0:=by omega
  exact⟨_,rfl,HF.o,KEY.out _ (by have:=HR2.o h0 (some ⟨g,o,none⟩) 0;rwa [h0])⟩
 go_enter Tryz.func45,Tryz.ntmps45
 go_wp2_with fail
 go_ret
 exact⟨_,rfl,HF.o,KEY.out _ HR1.o⟩
theorem G9 {xs ys:List ByteArray} {k:Nat} (h1:k < xs.length) (h2:k < ys.length) (h:xs.take k=ys.take k) (he:xs[k]=ys[k]):xs.take (k+1)=ys.take (k+1):=by
 rw [List.take_add_one,List.take_add_one,List.getElem?_eq_getElem h1,List.getElem?_eq_getElem h2,h,he]
theorem wF (s t:ByteArray) (h:s≠t):(s.toList==t.toList)=false:=by rw [O3,decide_eq_false_iff_not];exact h
theorem Bt (v u:Value) (xs ys:List ByteArray) (w:World) (h:Rd w 1 v xs.length (bn xs)) (hu:Rd w 1 u ys.length (bn ys)) (hx:xs.length≤1048576) (hy:ys.length≤1048576) :
  Calls Tryz.prog 150 #[v,u] w fun e w'=>e=.returned (.bool (decide (xs=ys)))∧Below w.heap.size w w':=by
 obtain⟨-,A,c,rfl,hc,h2⟩:=h
 obtain⟨-,A',c',rfl,hc',h2'⟩:=hu;have H1:=hid h2;have H2:=hid h2';clear h2 h2'
 by_cases hl:xs.length=ys.length
 ·have hq:((xs.length:Int) != (ys.length:Int))=false:=by rw [hl];simp
  have HL:=hid hl;clear hl
  go_enter Tryz.func150,Tryz.ntmps150
  go_wp2_with fail
  go_loopw [5,13] (fun _ i wr=>∃k:Nat,k≤xs.length∧i=.int .i64 k∧Hid (xs.take k=ys.take k)∧Hid (Below w.heap.size w wr)) (fun _ i _=>xs.length - (intOf i).toNat)
  case atStart=>exact⟨0,Nat.zero_le _,rfl,hid rfl,Below.refl _ _⟩
  case round =>
  obtain⟨k,hk,rfl,HT,HB⟩:=hrel
  by_cases hlt:k < xs.length
  ·have hlt2:k < ys.length:=by have:=HL.o;omega
   obtain⟨g,o,rfl,hcx⟩:=H1.o.resolve_left (by omega)
   obtain⟨g',o',rfl,hcy⟩:=H2.o.resolve_left (by omega)
   have e1:=hcx k _ (iX xs k hlt);have e2:=hcy k _ (iX ys k hlt2);have d1:=(HB.o.cell (block_lt_of_cell? w _ e1)).trans e1;have d2:=(HB.o.cell (block_lt_of_cell? w _ e2)).trans e2;clear e1 e2 hcx hcy
   by_cases he:xs[k]=ys[k]
   ·have HN:=hid (G9 hlt hlt2 HT.o he)
    rw [←he] at d2;clear he
    go_wp2_with fail
    go_quiet (fail)
    go_wp2_with fail
    go_roundw
    case rel=>exact⟨k+1,by omega,by go_num,HN,below_drewN HB.o _⟩
    case measure=>simp [intOf];omega
   have hne:=wF xs[k] ys[k] he
   have HN:Hid (decide (xs=ys)=false):=hid (by rw [decide_eq_false_iff_not];rintro rfl;exact he rfl)
   clear he
   go_wp2_with fail
   go_quiet (fail)
   go_wp2_with fail
   go_ret
   exact⟨bE HN.o.symm,below_drewN HB.o _⟩
  obtain rfl:k=xs.length:=by omega
  have HN:Hid (decide (xs=ys)=true):=hid (by
   rw [decide_eq_true_iff]
   have:=HT.o
   rwa [List.take_of_length_le (Nat.le_refl _),List.take_of_length_le (by rw [HL.o];exact Nat.le_refl _)] at this)
  go_wp2_with fail
  go_ret
  exact⟨bE HN.o.symm,HB.o⟩
 have hq:((xs.length:Int) != (ys.length:Int))=true:=by rw [bne_iff_ne];omega
 have HN:Hid (decide (xs=ys)=false):=hid (by rw [decide_eq_false_iff_not];rintro rfl;exact hl rfl)
 clear hl
 go_enter Tryz.func150,Tryz.ntmps150
 go_wp2_with fail
 go_ret
 exact⟨bE HN.o.symm,Below.refl _ _⟩
theorem Rd.front {w:World} {A:Option Addr} {n k c:Nat} {xs:List Value} (h:Rd w 1 (.slice A n c) n xs) (hk:k≤n):Rd w 1 (.slice A k c) k (xs.take k):=by
 obtain⟨h1,A',c',hv,hc,h2⟩:=h
 cases hv
 refine⟨by rw [List.length_take];omega,_,c,rfl,by omega,?_⟩
 rcases h2 with h2 | ⟨g,o,hA,h3⟩
 ·exact .inl (by omega)
 refine .inr ⟨g,o,hA,fun j u hj=>h3 j u ?_⟩
 rw [List.getElem?_take] at hj
 split at hj
 ·exact hj
 cases hj
theorem Bu (ss:List ByteArray) (k:Nat):(bn ss).take k=bn (ss.take k):=by simp [bn]
theorem bC {w:World} {L:List Nat} {b j:Nat} {x:Value} (h:b∈L):Kept L w (w.setCell ⟨b,j,none⟩ x):=(Kept.refl L w).set b j x (.inl h)
def r_ (w0:World) (L:List Nat) (i:Ids) (E:Int) (kh k:Nat) (S:Sx) (hs:List ByteArray) (w:World) (e:Ending) (w':World):Prop :=
 aZ L w L w'∧match S.rows with
  | []=>e=.panicked [F5 E 116]
  | (l,row)::rest=>if row.take hs.length=hs then ∃fv,e=.returned fv∧Rd w0 1 fv row.length (bn row)∧RM w0 w' L i E (kh+1) (k+1) { S with rows:=rest,line:=l } else e=.panicked [F5 l 116]
theorem yQ (w0:World) (L:List Nat) (i:Ids) (E:Int) (kh k:Nat) (S:Sx) (u:Value) (hs:List ByteArray) (w:World) (h:RM w0 w L i E kh k S) (hu:∀w',Kept L w w'→Rd w' 1 u hs.length (bn hs)) (hsl:hs.length≤1048576) :
  Calls Tryz.prog 115 #[.pointer (some ⟨i.rb,0,none⟩),u] w (r_ w0 L i E kh k S hs w):=by
 unfold r_
 rcases hrows:S.rows with _ | ⟨⟨l,row⟩,rest⟩
 ·obtain⟨hbd,v,hm⟩:=h
  have hr:=hm.rows;rw [hrows] at hr;obtain⟨rs,ha,⟨-,A,cap,hv,-,-⟩,-⟩:=hr
  have hn:rs.length=0:=by simpa [dP] using congrArg List.length ha
  rw [hn] at hv;have c1:=hm.r1;rw [hv] at c1;have c2:=hm.r2;have c3:=hm.r3;have z2:=hm.rz 2;have HM:=hid hm;have HU:=hid hu;clear hm hbd ha hv hn hu hrows;have HL:=hid (HM.o.lU E).r2
  go_enter Tryz.func115,Tryz.ntmps115
  go_wp2_with fail
  refine (dW i.rb E 116 _ HL.o).mono ?_
  rintro e w' ⟨⟨h,-⟩ | ⟨-,rfl⟩,rfl⟩
  ·exact absurd h (by decide)
  exact⟨rfl,⟨bC HM.o.vN,fun x hx=>.inl hx⟩,rfl⟩
 dsimp only;have HT:=hid (Iz w0 L i E kh k S l row rest w h hrows);obtain⟨hbd,v,hm⟩:=h
 have hrl:row.length≤65536:=(hbd.row (l,row) (by rw [hrows];simp)).2.1
 have hr:=hm.rows;rw [hrows] at hr;obtain⟨g,o,cap,fv0,hv,hcap,-⟩:=rQ hr;have c1:=hm.r1;rw [hv] at c1
 have hrest:rest.length+1≤65536:=by have:=hbd.heads;rw [hrows] at this;simp at this;omega
 have hq:(((rest.length+1:Nat):Int)==0)=false:=by rw [beq_eq_false_iff_ne];omega
 have Yw:Hid (∀x∈L,w0.heap.size≤x):=hid (fun x hx=>(hm.hl x hx).1)
 have Xl:=hid hm.base.size;have HU:=hid hu;obtain⟨-,A,cu,rfl,hcu,-⟩:=hu w (Kept.refl _ _);clear hm hbd hr hv hrows
 have hne:¬(rest.length:Int)+1=0:=by omega
 by_cases hge:hs.length≤row.length
 ·have ZJ:decide ((hs.length:Int)≤(row.length:Int))=true:=by rw [decide_eq_true_iff];omega
  by_cases hq2:row.take hs.length=hs
  ·simp only [if_pos hq2]
   have HQ:=hid hq2;clear hq2
   go_enter Tryz.func115,Tryz.ntmps115
   go_wp2_with fail
   refine HT.o.mono ?_
   rintro e w1 ⟨fv,rfl,hf,h1,hg⟩
   have HF:=hid hf;have iA:=hid h1;have HG:=hid hg
   have XR:Hid (Rd w1 1 fv row.length (bn row)):=by
    obtain⟨_,v1,hm1⟩:=h1
    exact hid (hf.keep hm1.base)
   obtain⟨-,A1,c1',rfl,hc1,-⟩:=hf;have XT:=hid (HU.o w1 hg.1)
   have iB:Hid (w1.cell? ⟨i.rb,2,none⟩=some (.int .i64 l)):=by
    obtain⟨_,v1,hm1⟩:=h1
    exact hid hm1.r2
   clear h1 hg
   have hle:hs.length≤c1':=by omega
   have HE:=hid (Bt (.slice A1 hs.length c1') (.slice A hs.length cu) (row.take hs.length) hs w1 (by rw [List.length_take,Nat.min_eq_left hge,←Bu];exact XR.o.front hge) XT.o (by rw [List.length_take];omega) hsl)
   rw [decide_eq_true HQ.o] at HE
   go_wp2_with fail
   refine HE.o.mono ?_
   rintro e w2 ⟨rfl,hb⟩
   have HB:=hid hb;clear hb
   go_wp2_with fail
   refine (aY i.rb l _ _ _ (by decide) (iR iB.o HB.o)).mono ?_
   rintro e w' ⟨⟨-,rfl⟩ | ⟨h,-⟩,rfl⟩
   ·go_wp2_with fail
    go_ret
    exact⟨HG.o.trans (aZ.of_below HB.o),_,rfl,HF.o,iA.o.below HB.o⟩
   exact absurd h (by decide)
  simp only [if_neg hq2];have HQ:=hid hq2;clear hq2
  go_enter Tryz.func115,Tryz.ntmps115
  go_wp2_with fail
  refine HT.o.mono ?_
  rintro e w1 ⟨fv,rfl,hf,h1,hg⟩
  have HF:=hid hf;have iA:=hid h1;have HG:=hid hg
  have XR:Hid (Rd w1 1 fv row.length (bn row)):=by
   obtain⟨_,v1,hm1⟩:=h1
   exact hid (hf.keep hm1.base)
  obtain⟨-,A1,c1',rfl,hc1,-⟩:=hf;have XT:=hid (HU.o w1 hg.1)
  have iB:Hid (w1.cell? ⟨i.rb,2,none⟩=some (.int .i64 l)):=by
   obtain⟨_,v1,hm1⟩:=h1
   exact hid hm1.r2
  clear h1 hg
  have hle:hs.length≤c1':=by omega
  have HE:=hid (Bt (.slice A1 hs.length c1') (.slice A hs.length cu) (row.take hs.length) hs w1 (by rw [List.length_take,Nat.min_eq_left hge,←Bu];exact XR.o.front hge) XT.o (by rw [List.length_take];omega) hsl)
  rw [decide_eq_false HQ.o] at HE
  go_wp2_with fail
  refine HE.o.mono ?_
  rintro e w2 ⟨rfl,hb⟩
  have HB:=hid hb;clear hb
  go_wp2_with fail
  refine (aY i.rb l _ _ _ (by decide) (iR iB.o HB.o)).mono ?_
  rintro e w' ⟨⟨h,-⟩ | ⟨-,rfl⟩,rfl⟩
  ·exact absurd h (by decide)
  exact⟨rfl,HG.o.trans (aZ.of_below HB.o),rfl⟩
 have ZJ:decide ((hs.length:Int)≤(row.length:Int))=false:=by rw [decide_eq_false_iff_not];omega
 have hq2:¬row.take hs.length=hs:=fun e=>by
  have:=congrArg List.length e
  rw [List.length_take] at this;omega
 simp only [if_neg hq2];clear hq2
 go_enter Tryz.func115,Tryz.ntmps115
 go_wp2_with fail
 refine HT.o.mono ?_
 rintro e w1 ⟨fv,rfl,hf,h1,hg⟩
 have HF:=hid hf;have iA:=hid h1;have HG:=hid hg
 have XR:Hid (Rd w1 1 fv row.length (bn row)):=by
  obtain⟨_,v1,hm1⟩:=h1
  exact hid (hf.keep hm1.base)
 obtain⟨-,A1,c1',rfl,hc1,-⟩:=hf;have XT:=hid (HU.o w1 hg.1)
 have iB:Hid (w1.cell? ⟨i.rb,2,none⟩=some (.int .i64 l)):=by
  obtain⟨_,v1,hm1⟩:=h1
  exact hid hm1.r2
 clear h1 hg
 go_wp2_with fail
 refine (aY i.rb l _ _ _ (by decide) iB.o).mono ?_
 rintro e w' ⟨⟨h,-⟩ | ⟨-,rfl⟩,rfl⟩
 ·exact absurd h (by decide)
 exact⟨rfl,HG.o,rfl⟩
theorem NP {P:Program} {md:Region.Mode} {ops:Array Oper} {Q:Exit→Act→World→Prop} {S:World→Prop} {i:Nat} {d:Option Tmp} {oi:Oper} {v:Value} {fuel:Nat} {listed:Array Bool} {a:Act} {w:World} (hi:ops[i]?=some oi) (hd:oi.dst=d)
  (hs:Region.noSelect ops=true) (hf:Region.free md ops listed i=true) (hr:(Region.ready md ops listed).contains i=true)
  (hQ:∀c a w,Q (.panic c) (a.put d v) w→Q (.panic c) a w) (hy:YieldsIf P ops S oi v a) (hS:S w)
  (h:wpAnyH P md ops Q S fuel (listed.setIfInBounds i true) (a.put d v) w):wpAnyH P md ops Q S (fuel+1) listed a w:=by
 subst hd
 exact wpAnyH_take hi hs hf hr hQ hy hS h
theorem takeA {P:Program} {md:Region.Mode} {ops:Array Oper} {Q:Exit→Act→World→Prop} {i:Nat} {d:Option Tmp} {oi:Oper} {v:Value} {fuel:Nat} {listed:Array Bool} {a:Act} {w:World} (hi:ops[i]?=some oi) (hd:oi.dst=d)
  (hs:Region.noSelect ops=true) (hf:Region.free md ops listed i=true) (hr:(Region.ready md ops listed).contains i=true)
  (hQ:∀c a w,Q (.panic c) (a.put d v) w→Q (.panic c) a w) (hy:Yields P ops oi v a)
  (h:wpAny P md ops Q fuel (listed.setIfInBounds i true) (a.put d v) w):wpAny P md ops Q (fuel+1) listed a w:=by
 subst hd
 exact wpAny_take hi hs hf hr hQ hy h
theorem tkH {P:Program} {md:Region.Mode} {ops:Array Oper} {Q:Exit→Act→World→Prop} {S:World→Prop} (i:Nat) (d:Option Tmp) {oi:Oper} (v:Value) {fuel:Nat} {listed:Array Bool} {a:Act} {w:World}
  (hy:∀w,S w→(execOp a.eval oi).run P w=.ok (.value v) w) (hS:S w) (h:wpAnyH P md ops Q S fuel (listed.setIfInBounds i true) (a.put d v) w)
  (hi:ops[i]?=some oi:=by rfl) (hd:oi.dst=d:=by rfl) (hs:Region.noSelect ops=true:=by kernel_rfl) (hf:Region.free md ops listed i=true:=by kernel_rfl) (hr:(Region.ready md ops listed).contains i=true:=by kernel_rfl)
  (hg:Region.wanted oi (yielded ops a.tmps)=true:=by kernel_rfl) (hQ:∀c a w,Q (.panic c) (a.put d v) w→Q (.panic c) a w:=by exact fun _ _ _ h=>h):wpAnyH P md ops Q S (fuel+1) listed a w :=
 NP hi hd hs hf hr hQ (.inl ⟨hg,hy⟩) hS h
theorem aA {P:Program} {md:Region.Mode} {ops:Array Oper} {Q:Exit→Act→World→Prop} {S:World→Prop} (i:Nat) (d:Option Tmp) {oi:Oper} {v:Value} {fuel:Nat} {listed:Array Bool} {a:Act} {w:World}
  (hS:S w) (h:wpAnyH P md ops Q S fuel (listed.setIfInBounds i true) (a.put d v) w)
  (hi:ops[i]?=some oi:=by rfl) (hd:oi.dst=d:=by rfl) (hs:Region.noSelect ops=true:=by kernel_rfl) (hf:Region.free md ops listed i=true:=by kernel_rfl) (hr:(Region.ready md ops listed).contains i=true:=by kernel_rfl)
  (hg:Region.wanted oi (yielded ops a.tmps)=true:=by kernel_rfl) (hQ:∀c a w,Q (.panic c) (a.put d v) w→Q (.panic c) a w:=by exact fun _ _ _ h=>h)
  (hy:∀w,S w→(execOp a.eval oi).run P w=.ok (.value v) w:=by intro w hSw;(try dsimp only at hSw);go_simp;try with_reducible rfl):wpAnyH P md ops Q S (fuel+1) listed a w :=
 NP hi hd hs hf hr hQ (.inl ⟨hg,hy⟩) hS h
theorem PI {P:Program} {md:Region.Mode} {ops:Array Oper} {Q:Exit→Act→World→Prop} {S:World→Prop} (i:Nat) (d:Option Tmp) {oi:Oper} {fuel:Nat} {listed:Array Bool} {a:Act} {w:World}
  (hS:S w) (h:wpAnyH P md ops Q S fuel (listed.setIfInBounds i true) (a.put d undef) w)
  (hi:ops[i]?=some oi:=by rfl) (hd:oi.dst=d:=by rfl) (hs:Region.noSelect ops=true:=by kernel_rfl) (hf:Region.free md ops listed i=true:=by kernel_rfl) (hr:(Region.ready md ops listed).contains i=true:=by kernel_rfl)
  (hg:Region.wanted oi (yielded ops a.tmps)=false:=by kernel_rfl) (hQ:∀c a w,Q (.panic c) (a.put d undef) w→Q (.panic c) a w:=by exact fun _ _ _ h=>h):wpAnyH P md ops Q S (fuel+1) listed a w :=
 NP hi hd hs hf hr hQ (.inr ⟨hg,rfl⟩) hS h
theorem aP {P:Program} {md:Region.Mode} {ops:Array Oper} {Q:Exit→Act→World→Prop} {S:World→Prop} (i:Nat) {fuel:Nat} {listed:Array Bool} {a:Act} {w:World} {o:Oper}
  (h:∀K':Act→World→Prop,Shut (∀a w,S w→(S w→wpAnyH P md ops Q S fuel (listed.setIfInBounds i true) a w)→K' a w)→if Region.wanted o (yielded ops a.tmps)=true then Oper.wp P o a w K' Q else K' (a.put o.dst undef) w)
  (ho:ops[i]?=some o:=by rfl) (hr:Region.ready md ops listed=[i]:=by kernel_rfl):wpAnyH P md ops Q S (fuel+1) listed a w :=
 wpAnyH_ready hr (by simp) (AllReadyH.cons ho h AllReadyH.nil)
theorem aj:(∀(a:Act) (t:Tmp) (v:Value),a.put (some t) v={ a with tmps:=a.tmps.setIfInBounds t v })∧(∀(a:Act) (v:Value),a.put none v=a)∧(∀(l:List Value) (i:Nat) (v:Value),l.toArray.setIfInBounds i v=(l.set i v).toArray) ∧
  (∀(x v:Value) (l:List Value),(x::l).set 0 v=v::l)∧(∀(x v:Value) (l:List Value) (i:Nat),(x::l).set (i+1) v=x::l.set i v) :=
 ⟨fun _ _ _=>rfl,fun _ _=>rfl,fun _ _ _=>List.setIfInBounds_toArray ..,fun _ _ _=>rfl,fun _ _ _ _=>rfl⟩
def pF (w0:World) (L:List Nat) (i:Ids) (E:Int) (kh k:Nat) (R:RX) (w:World) (e:Ending) (w':World):Prop :=
 ∃L',aZ L w L' w'∧match R with
  | .ok S'=>e=.returned (.tuple #[])∧RM w0 w' L' i E kh k S'
  | .error p=>e=.panicked [F5 p.1 p.2]
theorem Bd.mono {kh k:Nat} {S:Sx} (h:Bd kh (k+1) S):Bd kh k S :=
 ⟨h.row,h.heads,h.vM,by have:=h.au;omega,by have:=h.aI;omega,by have:=h.cls;omega,by have:=h.rls;omega,h.flags,h.sets,h.nexts,h.kind,h.sp,h.line⟩
theorem Bd.same {kh k:Nat} {S:Sx} (h:Bd kh k S) (F:Fl) (h1:F.au=S.fl.au) (h2:F.aI=S.fl.aI) (h3:F.cls=S.fl.cls) (h4:F.rls=S.fl.rls) (h5:1≤F.kind∧F.kind≤3) (h6:∀n,0≤dX F n∧dX F n≤65535):Bd kh k { S with fl:=F } :=
 ⟨h.row,h.heads,h.vM,by rw [show ({ S with fl:=F }:Sx).fl.au=S.fl.au from h1];exact h.au,by rw [show ({ S with fl:=F }:Sx).fl.aI=S.fl.aI from h2];exact h.aI,by rw [show ({ S with fl:=F }:Sx).fl.cls=S.fl.cls from h3];exact h.cls,by rw [show ({ S with fl:=F }:Sx).fl.rls=S.fl.rls from h4];exact h.rls,
  by rw [show ({ S with fl:=F }:Sx).fl.cls=S.fl.cls from h3];exact h.flags,by rw [show ({ S with fl:=F }:Sx).fl.aI=S.fl.aI from h2];exact h.sets,by rw [show ({ S with fl:=F }:Sx).fl.rls=S.fl.rls from h4];exact h.nexts,h5,h6,h.line⟩
theorem cK {w:World} (n:Nat):Below w.heap.size w (w.drewN n):=below_drewN (Below.refl _ _) n
theorem ah {w:World}:Below w.heap.size w w.drew:=(Below.refl _ w).drew
structure b_ (w0:World) (fv:Value) (row:List ByteArray):Prop where
 rd:Rd w0 1 fv row.length (bn row)
 len:row.length≤65536
 each:∀f∈row,f.size≤65536
theorem aL {row:List ByteArray} (h:∀f∈row,f.size≤65536) (j:Nat):(fieldAt row j).size≤65536:=by
 unfold fieldAt
 rw [List.getD]
 rcases hj:row[j]? with _ | f
 ·show 0≤65536;omega
 exact h f (List.mem_of_getElem? hj)
theorem b_.cells {w0:World} {fv:Value} {row:List ByteArray} (h:b_ w0 fv row) (h0:0 < row.length):∃g o c,fv=.slice (some ⟨g,o,none⟩) row.length c∧row.length≤c∧∀j,j < row.length→w0.cell? ⟨g,o+j,none⟩=some (.string (fieldAt row j)):=by
 obtain⟨-,A,c,rfl,hc,h2⟩:=h.rd
 obtain⟨g,o,rfl,h3⟩:=h2.resolve_left (by omega)
 refine⟨g,o,c,rfl,hc,fun j hj=>?_⟩
 have:=h3 j _ (iX row j hj)
 rw [this];simp [fieldAt,List.getD,hj]
theorem aD {w0 w:World} {g o j:Nat} {x:Value} (h:w0.cell? ⟨g,o+j,none⟩=some x) (hb:Below w0.heap.size w0 w):w.cell? ⟨g,o+j,none⟩=some x:=(hb.cell (block_lt_of_cell? w0 _ h)).trans h
theorem RM.base {w0 w:World} {L:List Nat} {i:Ids} {E:Int} {kh k:Nat} {S:Sx} (h:RM w0 w L i E kh k S):Below w0.heap.size w0 w:=by
 obtain⟨_,v,hm⟩:=h;exact hm.base
theorem RM.r2 {w0 w:World} {L:List Nat} {i:Ids} {E:Int} {kh k:Nat} {S:Sx} (h:RM w0 w L i E kh k S):w.cell? ⟨i.rb,2,none⟩=some (.int .i64 S.line):=by
 obtain⟨_,v,hm⟩:=h;exact hm.r2
theorem bR.f1 {w0 w:World} {L:List Nat} {i:Ids} {v:Vs} {E:Int} {S:Sx} {nx:List Int} {tf:Int→Int} {tn cn:Nat} {cf:Int→Option Nat} (h:bR w0 w L i v E S nx tf tn cf cn):w.cell? ⟨i.fb,1,none⟩=some (.string S.fl.charset)∧w.cell? ⟨i.fb,2,none⟩=some (.string S.fl.qI):=by
 constructor<;>(rw [cell_of_heap h.file];rfl)
theorem G_ (w0:World) (L:List Nat) (i:Ids) (E:Int) (kh k:Nat) (S:Sx) (fv:Value) (row:List ByteArray) (w:World) (h:RM w0 w L i E kh (k+1) S) (hr:b_ w0 fv row) (hl:row.length=2) :
  Calls Tryz.prog 76 #[.pointer (some ⟨i.rb,0,none⟩),fv] w (pF w0 L i E kh k (jw S.line S (oW S.fl (fieldAt row 1))) w):=by
 have hsz:=aL hr.each 1
 obtain⟨g,o,c,rfl,hc,hcells⟩:=hr.cells (by omega)
 have d1:=aD (hcells 1 (by omega)) h.base
 have HP:=hid (kS i.rb S.line (fieldAt row 1) w (by omega) h.r2)
 obtain⟨hbd,v,hm⟩:=h;have c0:=hm.r0;have e1:=hm.f1.1;have fz:=hm.fz 1;have HM:=hid hm;have HB:=hid hbd;rw [hl] at hc ⊢;clear hcells hm hbd hr;unfold oW
 cases hq:fitAll (fieldAt row 1)
 ·have HQ:=hid hq
  rw [if_pos rfl];clear hq
  go_enter Tryz.func76,Tryz.ntmps76
  go_wp2_with fail
  refine HP.o.mono ?_
  rw [HQ.o]
  rintro e w' ⟨⟨h,-⟩ | ⟨-,rfl⟩,rfl⟩
  ·cases h
  exact⟨rfl,L,aZ.refl _ _,rfl⟩
 have HQ:=hid hq
 rw [if_neg (by simp)]
 clear hq
 go_enter Tryz.func76,Tryz.ntmps76
 go_wp2_with fail
 refine HP.o.mono ?_
 rw [HQ.o]
 rintro e w' ⟨⟨-,rfl⟩ | ⟨h,-⟩,rfl⟩
 ·go_wp2_with fail
  go_region
  all_goals go_end0
  all_goals
   refine⟨L,⟨(bC HM.o.oh).drew,fun x hx=>.inl hx⟩,rfl,⟨?_,v,?_⟩⟩
   ·exact HB.o.mono.same _ rfl rfl rfl rfl HB.o.kind HB.o.sp
   exact (HM.o.qJ (F':={ S.fl with charset:=fieldAt row 1 }) 1 _ (by rfl) rfl rfl rfl rfl).below ah
 cases h
theorem TH (w0:World) (L:List Nat) (i:Ids) (E:Int) (kh k:Nat) (S:Sx) (fv:Value) (row:List ByteArray) (w:World) (h:RM w0 w L i E kh (k+1) S) (hr:b_ w0 fv row) (hl:row.length=2) :
  Calls Tryz.prog 77 #[.pointer (some ⟨i.rb,0,none⟩),fv] w (pF w0 L i E kh k (jw S.line S (xO S.fl (fieldAt row 1))) w):=by
 have hsz:=aL hr.each 1
 obtain⟨g,o,c,rfl,hc,hcells⟩:=hr.cells (by omega)
 have d1:=aD (hcells 1 (by omega)) h.base
 have HL:=hid (Ey (fieldAt row 1) w (by omega))
 have H2:=hid h.r2;obtain⟨hbd,v,hm⟩:=h;have HM:=hid hm;have HB:=hid hbd;rw [hl] at hc ⊢;clear hcells hm hbd hr;unfold xO;obtain⟨⟨t,e⟩,hq⟩:∃r,bT (fieldAt row 1)=r:=⟨_,rfl⟩;rw [hq] at HL ⊢;dsimp only at HL ⊢;clear hq
 by_cases he:e=0
 ·subst he
  rw [if_neg (by simp)]
  go_enter Tryz.func77,Tryz.ntmps77
  go_wp2_with fail
  refine HL.o.mono ?_
  rintro e w1 ⟨rfl,hb⟩
  have HB1:=hid hb;have iA:=hid (HM.o.below hb);clear hb
  go_wp2_with fail
  refine (dW i.rb S.line 0 _ iA.o.r2).mono ?_
  rintro e w' ⟨⟨-,rfl⟩ | ⟨h,-⟩,rfl⟩
  ·have c0:=iA.o.r0
   have e1:=iA.o.f1.2;have fz:=iA.o.fz 2
   go_wp2_with fail
   go_end0
   exact⟨L,(aZ.of_below HB1.o).trans ⟨bC iA.o.oh,fun x hx=>.inl hx⟩,rfl,HB.o.mono.same _ rfl rfl rfl rfl HB.o.kind HB.o.sp,v,iA.o.qJ (F':={ S.fl with qI:=t }) 2 _ (by rfl) rfl rfl rfl rfl⟩
  exact absurd h (by decide)
 have he2:(e==0)=false:=by simpa using he
 have HE:=hid he2;rw [if_pos he];clear he he2
 go_enter Tryz.func77,Tryz.ntmps77
 go_wp2_with fail
 refine HL.o.mono ?_
 rintro e' w1 ⟨rfl,hb⟩
 have HB1:=hid hb;have iA:=hid (HM.o.below hb);clear hb
 go_wp2_with fail
 refine (dW i.rb S.line e _ iA.o.r2).mono ?_
 rw [HE.o]
 rintro e' w' ⟨⟨h,-⟩ | ⟨-,rfl⟩,rfl⟩
 ·cases h
 exact⟨rfl,L,aZ.of_below HB1.o,rfl⟩
theorem NQ (w0:World) (L:List Nat) (i:Ids) (E:Int) (kh k:Nat) (S:Sx) (fv:Value) (row:List ByteArray) (w:World) (h:RM w0 w L i E kh (k+1) S) (hr:b_ w0 fv row) (hl:row.length=2) :
  Calls Tryz.prog 79 #[.pointer (some ⟨i.rb,0,none⟩),fv] w (pF w0 L i E kh k (jw S.line S (jI S.fl (fieldAt row 1))) w):=by
 have hsz:=aL hr.each 1
 obtain⟨g,o,c,rfl,hc,hcells⟩:=hr.cells (by omega)
 have d1:=aD (hcells 1 (by omega)) h.base
 have HN:=hid (l6 i.rb S.line (fieldAt row 1) 64 w.drew (by unfold maxLen;omega) (by decide) (by decide) h.r2)
 obtain⟨hbd,v,hm⟩:=h;have c0:=hm.r0;have e8:=hm.f8;have fz:=hm.fz 8;have HM:=hid hm;have HB:=hid hbd;rw [hl] at hc ⊢;clear hcells hm hbd hr;unfold jI;unfold pX at HN
 by_cases hq:bI (fieldAt row 1).data.toList 64=0
 ·rw [if_neg (by simpa using hq)] at HN
  obtain⟨n,hn⟩:∃n,aJ (fieldAt row 1).data.toList 64=n:=⟨_,rfl⟩
  have hn0:=dJ (fieldAt row 1).data.toList 64 (by decide)
  rw [hn] at HN hn0 ⊢
  by_cases h0:n=0
  ·rw [if_pos (.inr h0)]
   subst h0
   clear hq hn hn0
   go_enter Tryz.func79,Tryz.ntmps79
   go_wp2_with fail
   go_region_with (go_at_call 114;refine HN.o.mono ?_;rintro e w1 ⟨hb,rfl⟩;have HB1:=hid ((ah (w:=w)).trans hb);have iA:=hid (HM.o.below HB1.o);have c0':=iA.o.r0;have e8':=iA.o.f8;have fz':=iA.o.fz 8;clear hb)
   all_goals
    have WB:=(iA.o.qJ (F':={ S.fl with least:=0 }) 8 _ (by rfl) rfl rfl rfl rfl).r0
    have ZK:=(iA.o.qJ (F':={ S.fl with least:=0 }) 8 _ (by rfl) rfl rfl rfl rfl).f8
    have HR2:=hid (iA.o.qJ (F':={ S.fl with least:=0 }) 8 _ (by rfl) rfl rfl rfl rfl).r2
    go_wp2_with fail
    refine (aY i.rb S.line _ _ _ (by decide) HR2.o).mono ?_
    rintro e w' ⟨⟨h,-⟩ | ⟨-,rfl⟩,rfl⟩
    ·exact absurd h (by decide)
    exact⟨rfl,L,(aZ.of_below HB1.o).trans ⟨bC iA.o.oh,fun x hx=>.inl hx⟩,rfl⟩
  rw [if_neg (fun h=>h.elim (fun h=>h hq) h0)]
  have hgt:decide (0 < n)=true:=by rw [decide_eq_true_iff];omega
  clear hq hn
  go_enter Tryz.func79,Tryz.ntmps79
  go_wp2_with fail
  go_region_with (go_at_call 114;refine HN.o.mono ?_;rintro e w1 ⟨hb,rfl⟩;have HB1:=hid ((ah (w:=w)).trans hb);have iA:=hid (HM.o.below HB1.o);have c0':=iA.o.r0;have e8':=iA.o.f8;have fz':=iA.o.fz 8;clear hb)
  all_goals
   have HF:=hid (iA.o.qJ (F':={ S.fl with least:=n }) 8 _ (by rfl) rfl rfl rfl rfl)
   have WB:=HF.o.r0;have ZK:=HF.o.f8
   go_wp2_with fail
   refine (aY i.rb S.line _ _ _ (by decide) HF.o.r2).mono ?_
   rintro e w' ⟨⟨-,rfl⟩ | ⟨h,-⟩,rfl⟩
   ·go_wp2_with fail
    go_end0
    exact⟨L,(aZ.of_below HB1.o).trans ⟨bC iA.o.oh,fun x hx=>.inl hx⟩,rfl,HB.o.mono.same _ rfl rfl rfl rfl HB.o.kind HB.o.sp,v,HF.o⟩
   exact absurd h (by simp)
 rw [if_pos hq] at HN;rw [if_pos (.inl hq)];clear hq
 go_enter Tryz.func79,Tryz.ntmps79
 go_wp2_with fail
 refine wp_region_any (by kernel_rfl) ?_
 try (change wpAny _ _ _ _ _ _ _ (World.drew _))
 refine takeA (i:=0) (d:=some 4) (v:=?_) rfl rfl (by kernel_rfl) (by kernel_rfl) (by kernel_rfl) (fun _ _ _ h=>h) (Or.inl ⟨by kernel_rfl,?_⟩) ?_
 rotate_left
 ·intro w;go_simp;try with_reducible rfl
 try simp only [aj]
 refine takeA (i:=1) (d:=some 5) (v:=?_) rfl rfl (by kernel_rfl) (by kernel_rfl) (by kernel_rfl) (fun _ _ _ h=>h) (Or.inl ⟨by kernel_rfl,?_⟩) ?_
 rotate_left
 ·intro w;go_simp;try with_reducible rfl
 try simp only [aj]
 refine takeA (i:=2) (d:=some 6) (v:=?_) rfl rfl (by kernel_rfl) (by kernel_rfl) (by kernel_rfl) (fun _ _ _ h=>h) (Or.inl ⟨by kernel_rfl,?_⟩) ?_
 rotate_left
 ·intro w;go_simp;try with_reducible rfl
 try simp only [aj]
 refine takeA (i:=4) (d:=some 8) (v:=?_) rfl rfl (by kernel_rfl) (by kernel_rfl) (by kernel_rfl) (fun _ _ _ h=>h) (Or.inl ⟨by kernel_rfl,?_⟩) ?_
 rotate_left
 ·intro w;go_simp;try with_reducible rfl
 try simp only [aj]
 refine takeA (i:=5) (d:=some 9) (v:=?_) rfl rfl (by kernel_rfl) (by kernel_rfl) (by kernel_rfl) (fun _ _ _ h=>h) (Or.inl ⟨by kernel_rfl,?_⟩) ?_
 rotate_left
 ·intro w;go_simp;try with_reducible rfl
 try simp only [aj]
 refine takeA (i:=6) (d:=some 10) (v:=?_) rfl rfl (by kernel_rfl) (by kernel_rfl) (by kernel_rfl) (fun _ _ _ h=>h) (Or.inl ⟨by kernel_rfl,?_⟩) ?_
 rotate_left
 ·intro w;go_simp;try with_reducible rfl
 try simp only [aj]
 refine wpAny_ready (rs:=[3,7]) (by kernel_rfl) (by simp) ?_
 refine AllReady.cons rfl (fun K hK=>?_) ?_
 ·go_simp
  refine hK _ _ ?_
  clear hK K
  refine wpAny_ready (rs:=[7]) (by kernel_rfl) (by simp) ?_
  refine AllReady.cons rfl (fun K hK=>?_) ?_
  ·go_simp
   refine hK _ _ ?_
   clear hK K
   refine wpAny_ready (rs:=[8]) (by kernel_rfl) (by simp) ?_
   refine AllReady.cons rfl (fun K hK=>?_) ?_
   ·go_simp
    refine HN.o.mono ?_
    rintro e w' ⟨hb,rfl⟩
    exact⟨rfl,L,aZ.of_below ((ah (w:=w)).trans hb),rfl⟩
   exact AllReady.nil
  exact AllReady.nil
 refine AllReady.cons rfl (fun K hK=>?_) ?_
 ·go_simp
  refine hK _ _ ?_
  clear hK K
  refine wpAny_ready (rs:=[3,8]) (by kernel_rfl) (by simp) ?_
  refine AllReady.cons rfl (fun K hK=>?_) ?_
  ·go_simp
   refine hK _ _ ?_
   clear hK K
   refine wpAny_ready (rs:=[8]) (by kernel_rfl) (by simp) ?_
   refine AllReady.cons rfl (fun K hK=>?_) ?_
   ·go_simp
    refine HN.o.mono ?_
    rintro e w' ⟨hb,rfl⟩
    exact⟨rfl,L,aZ.of_below ((ah (w:=w)).trans hb),rfl⟩
   exact AllReady.nil
  refine AllReady.cons rfl (fun K hK=>?_) ?_
  ·go_simp
   refine HN.o.mono ?_
   rintro e w' ⟨hb,rfl⟩
   exact⟨rfl,L,aZ.of_below ((ah (w:=w)).trans hb),rfl⟩
  exact AllReady.nil
 exact AllReady.nil
theorem lg {w:World} {B e size n:Nat} {v:Value} {xs ys:List Value} (h:w.ownsRow B e size v n xs) (h':w.ownsRow B e size v n ys):xs=ys:=by
 rcases h.2 with ⟨rfl,h0⟩ | ⟨g,cap,cur,rfl,_,hb,_,_,_,ht⟩
 ·have h1:=h.1
  have h2:=h'.1;rw [h0,Nat.zero_mul] at h1 h2;rw [List.eq_nil_of_length_eq_zero h1,List.eq_nil_of_length_eq_zero h2]
 rcases h'.2 with ⟨hv,_⟩ | ⟨g',cap',cur',hv,_,hb',_,_,_,ht'⟩
 ·cases hv
 cases hv
 rw [hb] at hb'
 cases hb'
 rw [←ht,←ht']
theorem aW {P:Program} {w:World} {ops:Array Oper} {o:Oper} {a:Act} {K:Act→World→Prop} {Q:Exit→Act→World→Prop} {E:Prop} (hgd:o.guard=none) (s x:Operand) (t:TypeId)
  (ho:o.op=.call { callee:=.builtin .append,args:=#[s,x],argTypes:=#[t,t] })
  (base:Nat) (e:TypeId) (i:TypeInfo) (z:Value) (size bytes:Nat) (ht:P.underlying t=some (.slice e)) (hi:P.info? e=some i) (hz:i.zero=some z)
  (hsize:i.size=size) (hby:i.bytes=bytes) (hzs:z.cells.size=size) (hsz:0 < size)
  (v:Value) (n:Nat) (xs:List Value) (hs:a.eval s=v) (hown:w.ownsRow base e size v n xs)
  (us:Array Value) (zL:us.size=size) (h1:∀u∈us.toList,u.oneCell'=true) (hx:a.eval x=.slice (some ⟨w.heap.size,0,none⟩) 1 1)
  (h63:n+1≤maxLen) (hbytes:(n+1)*bytes≤140737488355328) (hbase:base≤w.heap.size)
  (h:∀g cap w',w'.ownsRow base e size (.slice (some ⟨g,0,none⟩) (n+1) cap) (n+1) (xs++us.toList)→w.grownBy w' v.ownBlock→n_ w w' v (.slice (some ⟨g,0,none⟩) (n+1) cap)→K (a.put o.dst (.slice (some ⟨g,0,none⟩) (n+1) cap)) w') :
  if Region.wanted o (yielded ops a.tmps)=true then Oper.wp P o a (w.alloc (.cells us e)) K Q else E:=by
 have hw:Region.wanted o (yielded ops a.tmps)=true:=by simp [Region.wanted,hgd]
 rw [if_pos hw]
 obtain⟨v',w',hrun,h2,h3,h4⟩:=eF (P:=P) (w.alloc (.cells us e)) base t o.type e i z size bytes ht hi hz hsize hby hzs hsz v n xs (hown.alloc _) (some ⟨w.heap.size,0,none⟩) 1 1 us.toList (by simp [zL])
  (.inr ⟨_,rfl,by
   intro j u hj
   rw [gJ,cell_of_row (w.alloc (.cells us e)) w.heap.size j us e (0,0) (heap_alloc_new w _)]
   simpa using hj⟩) h1 h63 hbytes (by simp;omega)
 obtain⟨g,cap,rfl⟩:∃g cap,v'=.slice (some ⟨g,0,none⟩) (n+1) cap:=by
  rcases h2.2 with ⟨_,h0⟩ | ⟨g,cap,cur,hv,_⟩
  ·omega
  exact⟨g,cap,hv⟩
 unfold Oper.wp execOp;simp only [ho,resolve,invoke,builtin,Sem.run_bind,Sem.run_pure,Result.andThen_ok,List.map_toArray,List.map_cons,List.map_nil,hs,hx,hrun]
 refine h g cap w' h2 (kU h3) ?_
 rcases h4 with h4 | h4
 ·exact .inl h4
 refine .inr ⟨g,rfl,?_,(h2.lt g rfl).2⟩
 have:g=(w.alloc (.cells us e)).heap.size:=by simpa [Value.ownBlock] using h4
 rw [this,World.size_alloc];omega
section
variable {w0 w w1:World} {L:List Nat} {i:Ids} {v:Vs} {E:Int} {S:Sx} {nx:List Int} {tf:Int→Int} {tn cn:Nat} {cf:Int→Option Nat} {r:Option Nat}
theorem bR.bX {e:Nat} (h:bR w0 w L i v E S nx tf tn cf cn) (hg:w.grownBy w1 r) (hr:∀g,r=some g→mG w g e) (hne:116≠e):w1.heap[i.fb]?=some (.cells (pq i v S.fl) 116 (0,0)) :=
 (hg.block i.fb (h.hl _ h.oh).2 (fun e1=>h.yY.ne (hr _ e1.symm) hne rfl)).trans h.file
theorem bR.dx {e:Nat} (h:bR w0 w L i v E S nx tf tn cf cn) (hg:w.grownBy w1 r) (hr:∀g,r=some g→mG w g e) (hne:119≠e):w1.heap[i.rb]?=some (.cells (KN i v E S) 119 (0,0)) :=
 (hg.block i.rb (h.hl _ h.vN).2 (fun e1=>h.wu.ne (hr _ e1.symm) hne rfl)).trans h.lT
theorem bR.kX (h:bR w0 w L i v E S nx tf tn cf cn) (hg:w.grownBy w1 r) (hr:∀g,r=some g→g∈L):Below w0.heap.size w0 w1 :=
 h.base.grown hg h.base.size (fun g hgv=>(h.hl _ (hr g hgv)).1)
end
end Go.Proofs.YtfkblpjfknfgbaaGreatDoor
