import Derived.Test.YtfkblpjfknfgbaaGreatDoorRows
import Derived.WalkKit
import Derived.ProofKit
import Derived.OpenShut
import Derived.SizedLaws
import Derived.HandedShaped
import Derived.JoinedCond
import Derived.Test.YtfkblpjfknfgbaaGreatDoorQ1
import Derived.Lib.Split
import Derived.Test.YtfkblpjfknfgbaaGreatDoorQ3
import Derived.Deep.RegionWith
import Derived.Test.YtfkblpjfknfgbaaGreatDoorP0
import Derived.Lib.ItoaNum
import Derived.Lib.LaidTab
import Derived.Sort.Grow
import Derived.BigQuiet
import Derived.Test.YtfkblpjfknfgbaaGreatDoorQ15
import Derived.Test.YtfkblpjfknfgbaaGreatDoorQ14
import Derived.Test.YtfkblpjfknfgbaaGreatDoorQ13
import Derived.WalkLawsBesides
import Derived.Test.YtfkblpjfknfgbaaGreatDoorQ16
import Derived.Lib.Join
import Derived.Lib.ItoaLen
import Derived.Deep.QuietTactic
import Derived.Shelf.Vars
import Derived.Test.YtfkblpjfknfgbaaGreatDoorQ9
import Derived.Test.YtfkblpjfknfgbaaGreatDoorQ5
set_option linter.unusedVariables false
set_option linter.unusedSimpArgs false
set_option maxHeartbeats 8000000
set_option maxRecDepth 100000
open Go.ChangeAt Go.ChangeShapes Go.Maps Go.RowKit Go.WideShapes
open Go.Lib (hid cell_of_heap frozen_of_heap byteCells)
open Go.World (block_lt_of_cell?)
namespace Go.Proofs.YtfkblpjfknfgbaaGreatDoor
open Go.ChangeMaps (open_string shut_string)
theorem aao (s:ByteArray):s.data.toList.length=s.size:=by simp
theorem ace (l:List UInt8):∀cur,cgo cur l≠[]:=by
 induction l with
 | nil=>intro cur;simp [cgo]
 | cons b l ih =>
  intro cur
  rw [cgo]
  split
  ·simp
  exact ih _
theorem aa8 (kind:Int) (l:List UInt8):(bS kind l).1.length≤64:=by
 unfold bS
 split
 ·simp
 split
 ·simp
 split
 ·simp
 split
 ·simp
 have:=ND (j_ kind l);simp;omega
def aaP (n:Int):ByteArray:=mkS (Lib.itoa n)
theorem below_grow (w:World) (q:Nat) (os:Array Obj):Below w.heap.size w (Go.Sort.grow (w.drewN q) os) :=
 ⟨rfl,rfl,rfl,by simp [Go.Sort.grow],fun i hi=>by
  show ((w.drewN q).heap++os)[i]?=_
  rw [Array.getElem?_append_left (by show i < w.heap.size;omega)]
  rfl⟩
def aad (w : World) : Prop := Lib.TabIs Tryz.prog w "internal/strconv.uint64pow10" .u64 Lib.pow10Tab
theorem aaq (n:Int) (w:World) (h0:-9223372036854775808≤n) (h1:n≤9223372036854775807) (ht:aad w) :
  Calls Tryz.prog 70 #[.int .i64 n] w fun e w'=>e=.returned (.string (aaP n))∧Below w.heap.size w w':=by
 have HT:=hid ht
 clear ht
 go_enter Tryz.func70,Tryz.ntmps70
 go_wp2_with (go_at_call 96;refine (Tryz.strconv_Itoa n h0 h1 _ HT.o).mono ?_;rintro e w1 ⟨rfl,k,os,hw⟩;have hb1:Below w.heap.size w w1:=(by rw [hw];exact below_grow _ _ _);have HB:=hid hb1;clear hw hb1)
 go_ret
 exact⟨rfl,HB.o⟩
theorem aa2 (wb:Nat) (es:List En) (w:World) (h:iH w wb es) :
  Calls Tryz.prog 31 #[.pointer (some ⟨wb,0,none⟩)] w fun e w'=>e=.returned (.int .i64 (es.length:Nat))∧w=w':=by
 obtain⟨mb,lv,xs,h1,h2,h3,h4,-⟩:=h
 have c0:w.cell? ⟨wb,0,none⟩=some lv:=by rw [cell_of_heap h1];rfl
 have hxl:xs.length=es.length:=by rw [←h2,dz]
 obtain⟨-,p,c,rfl,-,-⟩:=h3;rw [hxl] at c0;clear h1 h2 h4 hxl
 go_enter Tryz.func31,Tryz.ntmps31
 go_wp2_with fail
 go_ret
 exact⟨rfl,rfl⟩
theorem aal {P:Fl→Prop} {end_:Int} {ok:List ByteArray→Bool} {inn:Fl→Int→List ByteArray→Except Int Fl} (hi:∀F l r F',P F→inn F l r=.ok F'→P F'):∀(n:Nat) (S S':Sx),P S.fl→aO end_ ok inn n S=.ok S'→P S'.fl
 | 0,S,S',h0,h=>by rw [aO] at h;cases h;exact h0
 | n+1,S,S',h0,h=>by
   rw [aO] at h
   split at h
   ·cases h
   ·split at h
    ·split at h
     ·cases h
     ·rename_i hF
      exact aal hi n _ S' (hi _ _ _ _ h0 hF) h
    ·cases h
def LtP (r:Except (Int×Int×Int) (Fl×List En)) (w:World) (e:Ending) (w':World):Prop:=Below w.heap.size w w'∧match r with
 | .error _=>e=.returned (.tuple #[.pointer none,.pointer none,.bool true])
 | .ok p=>∃tb ub,e=.returned (.tuple #[.pointer (some ⟨tb,0,none⟩),.pointer (some ⟨ub,0,none⟩),.bool true])∧TabAt w' tb p.1 p.2∧mo w' ub p.1 p.2∧(iU p.1∧fA p.1∧Ei p.2)∧w.heap.size≤tb∧w.heap.size≤ub
theorem aaQ (a d:ByteArray) (m0:Int) (w:World) (h0:0 < w.heap.size) (hm:w.cell? ⟨0,0,none⟩=some (.int .i64 m0)) :
  Calls Tryz.prog 10 #[.string a,.string d] w (LtP (yw a.data.toList d.data.toList) w):=by
 have HR:=hid (Gy a d m0 w h0 hm)
 have HQ:Hid (∀W,Calls Tryz.prog 39 #[.string a,.string d] W (Wh (yw a.data.toList d.data.toList) W)):=hid (fun W=>Rp a d W)
 unfold Qd at HR;unfold Wh at HQ;unfold LtP;clear h0 hm
 cases hr:yw a.data.toList d.data.toList with
 | error p =>
  obtain⟨k,l,c⟩:=p
  rw [hr] at HR HQ;dsimp only at HR HQ;clear hr
  go_enter Tryz.func10,Tryz.ntmps10
  go_wp2_with fail
  refine HR.o.mono ?_
  rintro e w1 ⟨hb1,rfl⟩
  have HB1:=hid (hb1.alloc hb1.size (.cells #[.int .i64 k,.int .i64 l,.int .i64 c] 60));have fV:=hid (heap_alloc_new w1 (.cells #[.int .i64 k,.int .i64 l,.int .i64 c] 60));clear hb1
  go_wp2_with fail
  refine (HQ.o _).mono ?_
  rintro e w2 ⟨hb2,rfl⟩
  have HB2:=hid (HB1.o.trans (hb2.mono HB1.o.size));have hx2:=(hb2.block _ (block_lt fV.o)).trans fV.o;have hl2:=block_lt hx2;have d0:=cell_of_heap hx2 0;have d1:=cell_of_heap hx2 1;have d2:=cell_of_heap hx2 2
  simp only [List.getElem?_toArray,List.getElem?_cons_zero,List.getElem?_cons_succ] at d0 d1 d2
  clear hb2 hx2
  go_wp2_with fail
  go_ret3
  exact⟨HB2.o.alloc HB2.o.size _,by simp⟩
 | ok p =>
  obtain⟨F,es⟩:=p
  rw [hr] at HR HQ;dsimp only at HR HQ;clear hr
  go_enter Tryz.func10,Tryz.ntmps10
  go_wp2_with fail
  refine HR.o.mono ?_
  rintro e w1 ⟨hb1,tb,rfl,ht,hok,htb⟩
  have HB1:=hid (hb1.alloc hb1.size (.cells #[.int .i64 0,.int .i64 0,.int .i64 0] 60));have fV:=hid (heap_alloc_new w1 (.cells #[.int .i64 0,.int .i64 0,.int .i64 0] 60));have HT1:=hid (ht.keep ((Below.refl _ _).alloc (Nat.le_refl _) (.cells #[.int .i64 0,.int .i64 0,.int .i64 0] 60)));have jr:=hid hok;have XH:=hid htb;clear hb1 ht hok htb
  go_wp2_with fail
  refine (HQ.o _).mono ?_
  rintro e w2 ⟨hb2,ub,rfl,hq,hub⟩
  have HB2:=hid (HB1.o.trans (hb2.mono HB1.o.size));have HT2:=hid (HT1.o.keep hb2);have K_:=hid hq;have HUb:Hid (w.heap.size≤ub):=hid (Nat.le_trans HB1.o.size hub);have hx2:=(hb2.block _ (block_lt fV.o)).trans fV.o;have hl2:=block_lt hx2;have d0:=cell_of_heap hx2 0;have d1:=cell_of_heap hx2 1;have d2:=cell_of_heap hx2 2
  simp only [List.getElem?_toArray,List.getElem?_cons_zero,List.getElem?_cons_succ] at d0 d1 d2
  clear hb2 hx2 hq hub
  go_wp2_with fail
  go_ret3
  have hba:=(Below.refl w2.heap.size w2).alloc (Nat.le_refl _) (.cells #[.int .i64 0,.int .i64 0,.int .i64 0] 103)
  exact⟨HB2.o.alloc HB2.o.size _,tb,ub,by simp,HT2.o.keep hba,K_.o.keep hba,jr.o,XH.o,HUb.o⟩
theorem FN.sl {B:Nat} {W:World} {v:Value} {zs:List Int} (h:FN B W v zs):∃p c,v=.slice p zs.length c:=by
 obtain⟨p,c,hv,-⟩:=h
 exact⟨p,c,hv⟩
theorem gu.WV {w:World} {fb:Nat} {F:Fl} (h:gu w fb F) (hok:iU F):∃av us,xW w fb F.kind av us F.aI:=by
 obtain⟨i,v,n,h0,h1,-,-,⟨us,h2,h3,h4⟩,-⟩:=h.mem
 exact⟨v.aI,us,by rw [cell_of_heap h1];rfl,by rw [cell_of_heap h1];rfl,h2,h4,fun a ha=>⟨(hok.sets a ha).1,fZ (hok.sets a ha).1 (hok.sets a ha).2⟩⟩
theorem aaA (fb:Nat) (F:Fl) (s:ByteArray) (m0:Int) (w:World) (h:gu w fb F) (hok:iU F) (hs:s.size≤1048576) (hm:w.cell? ⟨0,0,none⟩=some (.int .i64 m0)) :
  Calls Tryz.prog 34 #[.pointer (some ⟨fb,0,none⟩),.string s] w fun e w'=>∃v,e=.returned (.tuple #[v,.int .i64 (aQ F s).2])∧FN w.heap.size w' v (aQ F s).1∧Below w.heap.size w w':=by
 obtain⟨av,us,hf⟩:=h.WV hok
 have:=tC fb F.kind m0 av us F.aI s w hf hok.aI (by omega) hm
 rw [←Az] at this
 exact this
theorem aaI (m:Nat) (h:m < 10):zh (UInt8.ofNat (48+m))=true∧(UInt8.ofNat (48+m)).toNat - 48=m:=by
 have h1:(UInt8.ofNat (48+m)).toNat=48+m:=by rw [UInt8.toNat_ofNat'];omega
 exact⟨by simp only [zh,h1,decide_eq_true_eq];omega,by omega⟩
theorem aa3 (u:Nat):valOf (Lib.decDigits u)=u∧(Lib.decDigits u).all zh=true∧Lib.decDigits u≠[]∧(0 < u→(Lib.decDigits u).head?≠some 48):=by
 induction u using Nat.strongRecOn with
 | _ u ih =>
  rw [Lib.decDigits]
  by_cases h:u < 10
  ·rw [dif_pos h]
   obtain⟨h1,h2⟩:=aaI u h
   refine⟨by simp only [valOf,List.foldl_cons,List.foldl_nil];omega,by rw [List.all_cons,h1];rfl,by simp,fun hu=>?_⟩
   simp only [List.head?_cons,ne_eq,Option.some.injEq]
   intro e
   have:=congrArg UInt8.toNat e
   rw [UInt8.toNat_ofNat'] at this;have h48:(48:UInt8).toNat=48:=rfl
   omega
  rw [dif_neg h]
  obtain⟨i1,i2,i3,i4⟩:=ih (u / 10) (by omega)
  obtain⟨h1,h2⟩:=aaI (u%10) (Nat.mod_lt _ (by omega))
  refine⟨by rw [wT,i1,h2];omega,by rw [List.all_append,i2,List.all_cons,h1];rfl,by simp,fun hu=>?_⟩
  rw [show ∀(l m:List UInt8),l≠[]→(l++m).head?=l.head? from fun l m h=>by cases l<;>simp_all]<;>try exact i3
  exact i4 (by omega)
theorem abH (u:Nat):lQ (Lib.decDigits u)=true∧valOf (Lib.decDigits u)=u:=by
 obtain⟨h1,h2,h3,h4⟩:=aa3 u
 refine⟨?_,h1⟩
 have e1:(Lib.decDigits u).isEmpty=false:=by cases h:Lib.decDigits u<;>simp_all
 have e2:(decide (1 < (Lib.decDigits u).length)&&(Lib.decDigits u).head?==some 48)=false:=by
  rcases Nat.eq_zero_or_pos u with rfl | hu
  ·rw [Lib.decDigits_one (by omega)];rfl
  have:=h4 hu
  simp [this]
 rw [lQ,e1,e2,h2];rfl
def aac (kind x:Int):List UInt8 :=
 if kind=1 then [UInt8.ofNat (x.toNat%256)] else if kind=2 then [UInt8.ofNat (x.toNat / 256),UInt8.ofNat (x.toNat%256)] else Lib.decDigits x.toNat
def aag (kind x:Int):Bool:=decide (iE kind (aac kind x)=x∧x≠0)
def abl (kind:Int):List UInt8:=if kind=3 then [44] else []
def aar (kind:Int) (cs:List Int):List UInt8:=Lib.join (cs.map (aac kind)) (abl kind)
def aah (kind:Int) (cs:List Int):List UInt8×Int :=
 if kindOk kind=false then ([],30)
 else if cs.all (aag kind)=false then ([],31)
 else if 64 < cs.length then ([],32)
 else (aar kind cs,0)
theorem aa4 (x:Int):aac 1 x=[UInt8.ofNat (x.toNat%256)]:=rfl
theorem aa5 (x:Int):aac 2 x=[UInt8.ofNat (x.toNat / 256),UInt8.ofNat (x.toNat%256)]:=rfl
theorem aaD (x:Int):aac 3 x=Lib.decDigits x.toNat:=rfl
theorem aaR (n:Nat) (h:n < 256):(UInt8.ofNat n).toNat=n:=by rw [UInt8.toNat_ofNat'];omega
theorem acH (x:Int) (h0:0≤x) (h1:x≤65535):iE 3 (aac 3 x)=x:=by
 obtain⟨h2,h3⟩:=abH x.toNat
 rw [aaD,Lu,aJ,if_pos ⟨h2,by rw [h3];omega⟩,h3]
 omega
theorem abm (kind:Int) (hk:kind=1∨kind=2∨kind=3) (l:List UInt8) (h:iE kind l≠0):aag kind (iE kind l)=true:=by
 unfold aag
 rw [decide_eq_true_eq]
 refine⟨?_,h⟩
 obtain⟨b0,b1⟩:=sG kind l
 rcases hk with rfl | rfl | rfl
 ·obtain⟨a,rfl⟩:∃a,l=[a]:=by
   match l with
   | [a]=>exact⟨a,rfl⟩
   | []=>exact absurd (CZ [] (by simp)) h
   | a::b::r=>exact absurd (CZ (a::b::r) (by simp)) h
  rw [Lr] at h ⊢
  have hs:fu a=true:=by
   cases hq:fu a
   ·rw [hq] at h;simp at h
   rfl
  rw [if_pos hs,aa4]
  have:=a.toNat_lt
  rw [show ((a.toNat:Int)).toNat%256=a.toNat by omega,UInt8.ofNat_toNat,Lr,if_pos hs]
 ·obtain⟨a,b,rfl⟩:∃a b,l=[a,b]:=by
   match l with
   | [a,b]=>exact⟨a,b,rfl⟩
   | []=>exact absurd (C8 [] (by simp)) h
   | [a]=>exact absurd (C8 [a] (by simp)) h
   | a::b::c::r=>exact absurd (C8 (a::b::c::r) (by simp)) h
  rw [Ls] at h ⊢
  have hs:fu a=true∧fu b=true:=by
   cases hq:fu a<;>cases hq2:fu b<;>simp [hq,hq2] at h ⊢
  rw [if_pos hs,aa5]
  have:=a.toNat_lt
  have:=b.toNat_lt
  rw [show ((a.toNat:Int)*256+b.toNat).toNat / 256=a.toNat by omega,show ((a.toNat:Int)*256+b.toNat).toNat%256=b.toNat by omega,UInt8.ofNat_toNat,UInt8.ofNat_toNat,Ls,if_pos hs]
 exact acH _ b0 b1
theorem abI (kind x:Int):aac kind x≠[]:=by
 unfold aac
 split
 ·simp
 split
 ·simp
 exact (aa3 x.toNat).2.2.1
theorem aa9 {kind:Int} (hk:kind=1∨kind=2∨kind=3):kindOk kind=true:=by rcases hk with rfl | rfl | rfl<;>rfl
theorem aav (kind:Int) (l:List UInt8) (h:(bS kind l).2=0) :
  (kind=1∨kind=2∨kind=3)∧(bS kind l).1≠[]∧(bS kind l).1.all (aag kind)=true∧canon (bS kind l).1=(bS kind l).1:=by
 rcases kW kind with ⟨hk,hk3⟩ | ⟨hk,-⟩
 ·refine⟨hk3,?_⟩
  unfold bS at h ⊢
  rw [if_neg (by rw [hk];simp)] at h ⊢
  by_cases h1:l=[]
  ·rw [if_pos h1] at h;simp at h
  rw [if_neg h1] at h ⊢
  by_cases h2:(j_ kind l).contains 0=true
  ·rw [if_pos h2] at h;simp at h
  rw [if_neg h2] at h ⊢
  by_cases h3:64 < (j_ kind l).length
  ·rw [if_pos h3] at h;simp at h
  rw [if_neg h3]
  refine⟨?_,?_,GV _⟩
  ·intro e
   have hp:j_ kind l≠[]:=by
    unfold j_
    intro e2
    have e3:=List.map_eq_nil_iff.1 e2;unfold kV at e3
    split at e3
    ·exact ace _ _ e3
    rw [Jj kind.toNat l.length l h1 (Nat.le_refl _)] at e3;simp at e3
   obtain⟨x,r,hx⟩:=List.exists_cons_of_ne_nil hp
   have:x∈canon (j_ kind l):=(eU _ _).2 (by rw [hx];simp)
   rw [show canon (j_ kind l)=[] from e] at this
   simp at this
  rw [List.all_eq_true]
  intro x hx
  have hx2:=(eU _ _).1 hx
  have h0:x≠0:=fun e=>h2 ((contains_iff _ _).2 (e▸hx2))
  obtain⟨p,-,rfl⟩:=List.mem_map.1 hx2
  exact abm kind hk3 p h0
 unfold bS at h;rw [if_pos hk] at h;simp at h
theorem aad.below {W W':World} (h:aad W) (hb:Below W.heap.size W W'):aad W':=by
 have hg : Tryz.prog.globalNamed "internal/strconv.uint64pow10" = some 1 := by kernel_rfl
 have hc:=h.cell hg 0 (by decide)
 exact var?_below hb hg (block_lt_of_cell? W _ hc) h
def aaf (kind x:Int):ByteArray:=if iE kind (aac kind x)=x then mkS (aac kind x) else ⟨#[]⟩
theorem aa_ {kind x:Int} (h:iE kind (aac kind x)=x):mkS (aac kind x)=aaf kind x:=by unfold aaf;rw [if_pos h]
theorem abn {kind x:Int} (h:¬iE kind (aac kind x)=x):(⟨#[]⟩:ByteArray)=aaf kind x:=by unfold aaf;rw [if_neg h]
theorem abJ (x:Int) (h0:0≤x):[Value.int .u8 (x%256)]=byteCells (aac 1 x):=by
 simp only [aa4,byteCells,List.map_cons,List.map_nil]
 rw [aaR _ (by omega),show ((x.toNat%256:Nat):Int)=x%256 by omega]
theorem abK (x:Int) (h0:0≤x) (h1:x≤65535):[Value.int .u8 (x / 256),Value.int .u8 (x%256)]=byteCells (aac 2 x):=by
 simp only [aa5,byteCells,List.map_cons,List.map_nil]
 rw [aaR _ (by omega),aaR _ (by omega),show ((x.toNat%256:Nat):Int)=x%256 by omega,show ((x.toNat / 256:Nat):Int)=x / 256 by omega]
theorem aaB (w:World) (cs:Array Value) (n:Nat) (l:List UInt8) (hn:n≤2) (hs:cs.size=n) (hc:cs.toList=byteCells l) :
  (convert 213 9 (.slice (some ⟨w.heap.size,0,none⟩) n n)).run Tryz.prog (w.alloc (.cells cs 5))=.ok (.string (mkS l)) (w.alloc (.cells cs 5)):=by
 have h:=CR w 5 1 n cs (by omega) (by unfold maxLen;omega)
 rw [hc] at h
 exact bP h 213 9 Tryz.underlying213 Tryz.underlying5 Tryz.underlying9
theorem abo (kind x:Int) (w:World) (hk:kind=1∨kind=2∨kind=3) (h0:0≤x) (h1:x≤65535) (ht:aad w) :
  Calls Tryz.prog 94 #[.int .i64 kind,.int .u16 x] w fun e w'=>e=.returned (.string (aaf kind x))∧Below w.heap.size w w':=by
 obtain⟨n,hn⟩:∃n,iE kind (aac kind x)=n:=⟨_,rfl⟩
 have HN:=hid hn;have hT:=hid ht;have ha:Below w.heap.size w w:=Below.refl _ _
 have HR:=hid (show (n=x∧mkS (aac kind x)=aaf kind x)∨(¬n=x∧(⟨#[]⟩:ByteArray)=aaf kind x) by
  by_cases h:n=x
  ·exact .inl ⟨h,aa_ (hn.trans h)⟩
  exact .inr ⟨h,abn (fun e=>h (hn.symm.trans e))⟩)
 obtain⟨r,hr⟩:∃r,aaf kind x=r:=⟨_,rfl⟩;rw [hr] at HR ⊢;clear hn ht hr
 rcases hk with rfl | rfl | rfl
 ·have hcv:=aaB w #[.int .u8 (x%256)] 1 (aac 1 x) (by omega) rfl (abJ x h0)
  have HA:=hid (ha.alloc (Nat.le_refl _) (.cells #[.int .u8 (x%256)] 5))
  have HZ:=hid (show (mkS (aac 1 x)).size≤maxLen by rw [aG];show 1≤maxLen;decide)
  obtain⟨s,hs⟩:∃s,mkS (aac 1 x)=s:=⟨_,rfl⟩
  have HD:=hid (show iE 1 s.data.toList=n by rw [←hs];exact HN.o)
  rw [hs] at hcv HR HZ;clear hs ha
  rcases HR.o with ⟨hx,rfl⟩ | ⟨hx,rfl⟩
  ·have hne:(n != x)=false:=by simpa using hx
   clear hx HR
   go_enter Tryz.func94,Tryz.ntmps94
   go_wp2_with (go_at_call 91;refine (ql 1 s _ (.inl rfl) HZ.o).mono ?_;rw [HD.o];rintro e w1 ⟨rfl,m,rfl⟩)
   go_ret
   exact⟨rfl,below_drewN HA.o _⟩
  have hne:(n != x)=true:=by simpa using hx
  clear hx HR
  go_enter Tryz.func94,Tryz.ntmps94
  go_wp2_with (go_at_call 91;refine (ql 1 s _ (.inl rfl) HZ.o).mono ?_;rw [HD.o];rintro e w1 ⟨rfl,m,rfl⟩)
  go_ret
  exact⟨rfl,below_drewN HA.o _⟩
 ·have hcv:=aaB w #[.int .u8 (x / 256),.int .u8 (x%256)] 2 (aac 2 x) (by omega) rfl (abK x h0 h1)
  have HA:=hid (ha.alloc (Nat.le_refl _) (.cells #[.int .u8 (x / 256),.int .u8 (x%256)] 5))
  have HZ:=hid (show (mkS (aac 2 x)).size≤maxLen by rw [aG];show 2≤maxLen;decide)
  obtain⟨s,hs⟩:∃s,mkS (aac 2 x)=s:=⟨_,rfl⟩
  have HD:=hid (show iE 2 s.data.toList=n by rw [←hs];exact HN.o)
  rw [hs] at hcv HR HZ;clear hs ha
  rcases HR.o with ⟨hx,rfl⟩ | ⟨hx,rfl⟩
  ·have hne:(n != x)=false:=by simpa using hx
   clear hx HR
   go_enter Tryz.func94,Tryz.ntmps94
   go_wp2_with (go_at_call 91;refine (ql 2 s _ (.inr (.inl rfl)) HZ.o).mono ?_;rw [HD.o];rintro e w1 ⟨rfl,m,rfl⟩)
   go_ret
   exact⟨rfl,below_drewN HA.o _⟩
  have hne:(n != x)=true:=by simpa using hx
  clear hx HR
  go_enter Tryz.func94,Tryz.ntmps94
  go_wp2_with (go_at_call 91;refine (ql 2 s _ (.inr (.inl rfl)) HZ.o).mono ?_;rw [HD.o];rintro e w1 ⟨rfl,m,rfl⟩)
  go_ret
  exact⟨rfl,below_drewN HA.o _⟩
 have HS:=hid (show aaP x=mkS (aac 3 x) by unfold aaP Lib.itoa;rw [if_neg (by omega),aaD])
 have HZ:=hid (show (mkS (aac 3 x)).size≤maxLen by
  rw [aG,aaD,Lib.decDigits_length]
  have:=Lib.nDigits_le20 x.toNat (by omega)
  unfold maxLen;omega)
 obtain⟨s,hs⟩:∃s,mkS (aac 3 x)=s:=⟨_,rfl⟩
 have HD:=hid (show iE 3 s.data.toList=n by rw [←hs];exact HN.o)
 rw [hs] at HR HZ HS;clear hs ha
 have D:=hid (aaq x w (by omega) (by omega) hT.out)
 rcases HR.o with ⟨hx,rfl⟩ | ⟨hx,rfl⟩
 ·have hne:(n != x)=false:=by simpa using hx
  clear hx HR
  go_enter Tryz.func94,Tryz.ntmps94
  go_wp2_with (first
   | (go_at_call 70;refine D.out.mono ?_;rw [HS.o];rintro e w1 ⟨rfl,b1⟩;have B1:=hid b1;clear b1)
   | (go_at_call 91;refine (ql 3 s _ (.inr (.inr rfl)) HZ.o).mono ?_;rw [HD.o];rintro e w1 ⟨rfl,m,rfl⟩))
  go_ret
  exact⟨rfl,below_drewN B1.out _⟩
 have hne:(n != x)=true:=by simpa using hx
 clear hx HR
 go_enter Tryz.func94,Tryz.ntmps94
 go_wp2_with (first
  | (go_at_call 70;refine D.out.mono ?_;rw [HS.o];rintro e w1 ⟨rfl,b1⟩;have B1:=hid b1;clear b1)
  | (go_at_call 91;refine (ql 3 s _ (.inr (.inr rfl)) HZ.o).mono ?_;rw [HD.o];rintro e w1 ⟨rfl,m,rfl⟩))
 go_ret
 exact⟨rfl,below_drewN B1.out _⟩
theorem aaE {xs ys:List Int} {k:Nat} (h1:k < xs.length) (h2:k < ys.length) (h:xs.take k=ys.take k) (e:xs.getD k 0=ys.getD k 0):xs.take (k+1)=ys.take (k+1):=by
 rw [List.take_add_one,List.take_add_one,h,List.getElem?_eq_getElem h1,List.getElem?_eq_getElem h2]
 simp only [List.getD,List.getElem?_eq_getElem h1,List.getElem?_eq_getElem h2,Option.getD_some] at e
 rw [e]
theorem abp (v u:Value) (xs ys:List Int) (w:World) (h:FS w v xs) (hu:FS w u ys) (hbig:xs.length≤9223372036854775807) (hbig2:ys.length≤9223372036854775807) :
  Calls Tryz.prog 65 #[v,u] w fun e w'=>e=.returned (.bool (decide (xs=ys)))∧∃n,w'=w.drewN n:=by
 obtain⟨p,c,rfl,hcap,hs⟩:=h
 obtain⟨p2,c2,rfl,hcap2,hs2⟩:=hu;have hA:=hid hs;have hB:=hid hs2;clear hs hs2
 by_cases hn:xs.length=ys.length
 ·have HN:=hid hn
  rw [←hn];clear hn
  go_enter Tryz.func65,Tryz.ntmps65
  go_wp2_with fail
  go_loopw [5,13] (fun _ i wr=>∃k m:Nat,k≤xs.length∧i=.int .i64 k∧wr=w.drewN m∧Hid (xs.take k=ys.take k)) (fun _ i _=>xs.length - (intOf i).toNat)
  case atStart=>exact⟨0,0,Nat.zero_le _,rfl,rfl,rfl⟩
  case round =>
  obtain⟨k,m,hk,rfl,rfl,HR⟩:=hrel
  by_cases hlt:k < xs.length
  ·have hlt2:k < ys.length:=by have:=HN.o;omega
   obtain⟨b,off,rfl,hc⟩:=hA.out.resolve_left (by omega)
   obtain⟨b2,off2,rfl,hc2⟩:=hB.out.resolve_left (by omega)
   have c1:=hc k hlt;have c2':=hc2 k hlt2;clear hc hc2
   generalize hx:xs.getD k 0=x at c1
   generalize hy:ys.getD k 0=y at c2'
   have HX:=hid hx;have HY:=hid hy;clear hx hy
   cases hq:(x==y)
   ·have hfin:=hid (show decide (xs=ys)=false by
     rw [decide_eq_false_iff_not];rintro rfl
     rw [HX.o] at HY
     rw [HY.o] at hq;simp at hq)
    go_wp2_with fail
    go_quiet (fail)
    go_wp2_with fail
    go_ret
    exact⟨by rw [hfin.out];rfl,_,by rw [World.drewN_drewN]⟩
   have he:=hid (aaE hlt hlt2 HR.o (by rw [HX.o,HY.o];simpa using hq))
   go_wp2_with fail
   go_quiet (fail)
   go_wp2_with fail
   go_roundw
   case rel=>exact⟨k+1,_,by omega,by go_num,rfl,he.out⟩
   case measure=>simp [intOf];omega
  have hke:k=xs.length:=by omega
  subst hke
  have hfin:=hid (show decide (xs=ys)=true by
   have h1:=HR.o
   have h2:=HN.o;rw [List.take_length,h2,List.take_length] at h1
   rw [h1];simp)
  go_wp2_with fail
  go_ret
  exact⟨by rw [hfin.out];rfl,_,rfl⟩
 have hfin:=hid (show decide (xs=ys)=false by
  rw [decide_eq_false_iff_not];rintro rfl;exact hn rfl)
 have hne:((xs.length:Int)==(ys.length:Int))=false:=by
  rw [beq_eq_false_iff_ne];omega
 go_enter Tryz.func65,Tryz.ntmps65
 go_wp2_with fail
 go_ret
 exact⟨by rw [hfin.out];rfl,0,rfl⟩
theorem below_draws {B:Nat} {a w:World} (h:Below B a w) (n:Nat):Below B a (w.drewN n):=⟨h.os,h.tape,h.output,h.size,h.block⟩
theorem aas (v u:Value) (xs ys:List Int) (w:World) (h:FS w v xs) (hu:FS w u ys) (hbig:xs.length*2≤281474976710656) (hbig2:ys.length*2≤281474976710656) :
  Calls Tryz.prog 35 #[v,u] w fun e w'=>e=.returned (.bool (decide (canon xs=canon ys)))∧Below w.heap.size w w':=by
 have hF:=hid h
 have hU:=hid hu;clear h hu
 generalize hr:decide (canon xs=canon ys)=r
 have HR:=hid hr;clear hr
 have l1:=hid (Nat.le_trans (ND xs) (show xs.length≤9223372036854775807 by omega))
 have l2:=hid (Nat.le_trans (ND ys) (show ys.length≤9223372036854775807 by omega))
 go_enter Tryz.func35,Tryz.ntmps35
 go_wp2_with (go_at_call_of 64 v;refine (Ru _ xs _ hF.out hbig).mono ?_;rintro e w1 ⟨v1,rfl,h1,b1⟩)
 have H1:=hid h1.fs;have B1:=hid b1;have hs1:=b1.size;clear h1 b1
 go_wp2_with (go_at_call_of 64 u;refine (Ru _ ys _ (hU.out.keep B1.out) hbig2).mono ?_;rintro e w2 ⟨v2,rfl,h2,b2⟩)
 have H2:=hid h2.fs;have K1:=hid (H1.o.keep b2);have B2:=hid (B1.out.trans (b2.mono hs1));clear h2 b2
 go_wp2_with (go_at_call 65;refine (abp _ _ _ _ _ K1.out H2.o l1.out l2.out).mono ?_;rw [HR.o];rintro e w3 ⟨rfl,hw⟩;have B3:=hid (show Below w.heap.size w w3 by obtain⟨n,rfl⟩:=hw;exact below_draws B2.out n);clear hw)
 go_wp2
 go_ret
 exact⟨rfl,B3.out⟩
theorem abq {zs:List Int} (h:∀x∈zs,0≤x∧x≤65535):∀x∈canon zs,0≤x∧x≤65535:=fun x hx=>h x ((eU _ _).1 hx)
theorem abr (kind x:Int) (h0:0≤x) (h1:x≤65535):(aac kind x).length≤20:=by
 unfold aac
 split
 ·simp
 split
 ·simp
 rw [Lib.decDigits_length]
 exact Lib.nDigits_le20 x.toNat (by omega)
theorem aaC (kind:Int):∀cs:List Int,(∀x∈cs,0≤x∧x≤65535)→Lib.lens (cs.map (aac kind))≤20*cs.length
 | [],_=>by simp [Lib.lens]
 | c::cs,h=>by
   have ih:=aaC kind cs (fun x hx=>h x (List.mem_cons_of_mem _ hx))
   have h1:=abr kind c (h c (by simp)).1 (h c (by simp)).2
   simp only [Lib.lens,List.map_cons,List.sum_cons,List.length_cons] at ih ⊢
   omega
theorem aa' (kind:Int) (cs:List Int) (h:∀x∈cs,0≤x∧x≤65535):(aar kind cs).length≤21*cs.length:=by
 unfold aar
 cases cs with
 | nil=>simp [Lib.join_nil]
 | cons c cs =>
  have h1:=aaC kind (c::cs) h
  rw [List.map_cons] at h1 ⊢;rw [Lib.join_length,List.length_map]
  have h2:(abl kind).length≤1:=by unfold abl;split<;>simp
  have h3:=Nat.mul_le_mul_right cs.length h2;simp only [List.length_cons] at h1 ⊢
  omega
theorem aa6 (v:Value) (xs:List ByteArray) (sep:ByteArray) (w:World) (h:Rd w 1 v xs.length (bn xs)) (hn:xs.length≤140737488355328) (hl:(Lib.join (xs.map (·.data.toList)) sep.data.toList).length≤140737488355328) :
  Calls Tryz.prog 95 #[v,.string sep] w fun e w'=>e=.returned (.string (mkS (Lib.join (xs.map (·.data.toList)) sep.data.toList)))∧Below w.heap.size w w':=by
 obtain⟨_,A,cap,rfl,hc,h2⟩:=h
 rcases h2 with h2 | ⟨g,o,rfl,h3⟩
 ·have hx:xs=[]:=List.eq_nil_of_length_eq_zero h2
  subst hx
  exact (Tryz.strings_Join_none A cap sep w).mono (fun e w' ⟨he,hw⟩=>⟨he,by rw [hw];exact Below.refl _ _⟩)
 rcases Nat.eq_zero_or_pos xs.length with h0 | h0
 ·have hx:xs=[]:=List.eq_nil_of_length_eq_zero h0
  subst hx
  exact (Tryz.strings_Join_none (some ⟨g,o,none⟩) cap sep w).mono (fun e w' ⟨he,hw⟩=>⟨he,by rw [hw];exact Below.refl _ _⟩)
 exact Tryz.strings_Join g o cap xs sep w (fun j x hj=>h3 j (.string x) (by simp [bn,hj]))
  (block_lt_of_cell? w _ (h3 0 (.string xs[0]) (iX xs 0 h0))) hn hc hl
def aai (kind:Int) (cs:List Int):List ByteArray:=cs.map fun x=>mkS (aac kind x)
theorem aaS (kind:Int) (cs:List Int):(aai kind cs).length=cs.length:=by simp [aai]
theorem aaw (kind:Int) (cs:List Int) (sep:ByteArray) (h:sep.data.toList=abl kind):Lib.join ((aai kind cs).map (·.data.toList)) sep.data.toList=aar kind cs:=by
 unfold aai aar
 rw [h,List.map_map]
 rfl
theorem aaT (kind:Int) (cs:List Int) (k:Nat) (h:k < cs.length):bn (aai kind (cs.take (k+1)))=bn (aai kind (cs.take k))++[Value.string (mkS (aac kind cs[k]))]:=by
 rw [List.take_add_one,List.getElem?_eq_getElem h]
 simp only [aai,bn,List.map_append]
 rfl
theorem abN (kind:Int) (cs:List Int) (hk:kindOk kind=true) (k:Nat) (hk2:k < cs.length) (h:aag kind cs[k]=false):aah kind cs=([],31):=by
 unfold aah
 rw [if_neg (by rw [hk];decide),if_pos]
 cases hq:cs.all (aag kind)
 ·rfl
 rw [List.all_eq_true.1 hq _ (List.getElem_mem hk2)] at h;simp at h
theorem abO (kind:Int) (cs:List Int) (hk:kindOk kind=true) (h:∀j (hj:j < cs.length),aag kind cs[j]=true):aah kind cs=if 64 < cs.length then ([],32) else (aar kind cs,0):=by
 unfold aah
 rw [if_neg (by rw [hk];decide),if_neg]
 rw [Bool.not_eq_false,List.all_eq_true]
 intro x hx
 obtain⟨k,hk,rfl⟩:=List.getElem_of_mem hx
 exact h k hk
theorem abP (kind:Int) (cs:List Int) (hk:kindOk kind=false):aah kind cs=([],30):=by
 unfold aah;rw [if_pos hk]
theorem aaU (kind x:Int):(aaf kind x=⟨#[]⟩∧aag kind x=false)∨(aaf kind x=mkS (aac kind x)∧x=0∧aag kind x=false)∨(aaf kind x=mkS (aac kind x)∧x≠0∧aag kind x=true):=by
 unfold aaf aag
 by_cases h:iE kind (aac kind x)=x
 ·rw [if_pos h]
  by_cases h0:x=0
  ·exact .inr (.inl ⟨rfl,h0,by rw [decide_eq_false_iff_not];exact fun e=>e.2 h0⟩)
  exact .inr (.inr ⟨rfl,h0,by rw [decide_eq_true_eq];exact⟨h,h0⟩⟩)
 rw [if_neg h]
 exact .inl ⟨rfl,by rw [decide_eq_false_iff_not];exact fun e=>h e.1⟩
theorem aaJ:(Tryz.prog.info? 9).map (fun i=>(i.zero,i.size,i.bytes))=some (some (.string ByteArray.empty),1,16):=by kernel_rfl
theorem abQ (kind:Int) (v:Value) (zs:List Int) (w:World) (h:FS w v zs) (hbd:∀x∈zs,0≤x∧x≤65535) (hbig:zs.length≤4194304) (ht:aad w) :
  Calls Tryz.prog 67 #[.int .i64 kind,v] w fun e w'=>e=.returned (.tuple #[.string (mkS (aah kind (canon zs)).1),.int .i64 (aah kind (canon zs)).2])∧Below w.heap.size w w':=by
 obtain⟨i0,hi,hz0,hz1,hz2⟩:=info_parts aaJ
 have hF:=hid h;have hT:=hid ht;have acf:=abq hbd;have hcl:=ND zs;clear h ht hbd
 rcases kW kind with ⟨hko,hk⟩ | ⟨hko,hk⟩
 ·have HK:=hid hko
  have HKK:=hid hk;clear hko hk;obtain⟨cs,hcs⟩:∃cs,canon zs=cs:=⟨_,rfl⟩;have HCS:=hid hcs;rw [hcs] at acf hcl ⊢;have HB:=hid acf;clear hcs acf;obtain⟨r,hr⟩:∃r,aah kind cs=r:=⟨_,rfl⟩;have HR:=hid hr;rw [hr];clear hr
  go_enter Tryz.func67,Tryz.ntmps67
  go_wp2_with (first
   | (go_at_call 89;refine (mJ _ _).mono ?_;rw [HK.o];rintro e w1 ⟨rfl,rfl⟩)
   | (go_at_call 64;refine (Ru _ zs _ hF.out (by omega)).mono ?_;rw [HCS.o];rintro e w1 ⟨v1,rfl,h1,b1⟩;obtain⟨p1,c1,rfl,_,hs1⟩:=h1.fs;have H1:=hid hs1;have B1:=hid b1;clear h1 b1 hs1))
  have hsz1:=B1.out.size
  go_loopw [6,8,9,16] (fun o _ _ i wr=>∃k:Nat,k≤cs.length∧i=.int .i64 k∧Hid (∀j (hj:j < cs.length),j < k→aag kind cs[j]=true)∧Hid (Own w1 wr 9 1 o k (bn (aai kind (cs.take k))))) (fun _ _ _ i _=>cs.length - (intOf i).toNat)
  case atStart=>exact⟨0,Nat.zero_le _,rfl,(fun j _ hj=>absurd hj (Nat.not_lt_zero _)),Own.fP _ _ _⟩
  case round =>
  obtain⟨k,hkk,rfl,HN,HO⟩:=hrel
  have hsz:=HO.o.size
  by_cases hlt:k < cs.length
  ·obtain⟨b,o,rfl,hc⟩:=H1.o.resolve_left (by omega)
   have c0:=hc k hlt;have hcell:=(HO.o.below.cell (block_lt_of_cell? w1 _ c0)).trans c0
   have ecs:cs.getD k 0=cs[k]:=by simp [List.getD,hlt]
   rw [ecs] at hcell;obtain⟨b0,b1⟩:=HB.o cs[k] (List.getElem_mem hlt)
   have HP:=hid (show aad wr from aad.below hT.out (B1.out.trans (HO.o.below.mono hsz1)))
   have HS:=hid (aaT kind cs k hlt);have H31:=hid (abN kind cs HK.o k hlt);have HG:=hid (aaU kind cs[k])
   have XO:=hid (show aag kind cs[k]=true→∀j (hj:j < cs.length),j < k+1→aag kind cs[j]=true from fun hg j hj hjk=>by
    by_cases e:j=k
    ·subst e;exact hg
    exact HN.o j hj (by omega))
   have HTN:=hid (abI kind cs[k]);clear hc c0 ecs HN
   generalize cs[k]=x at *
   have HSP:=hid (abo kind x wr HKK.o b0 b1 HP.o)
   rcases HG.o with ⟨hq,hg⟩ | ⟨hq,hx0,hg⟩ | ⟨hq,hx0,hg⟩
   ·have HQ:=hid hq
    have hfin:=hid (HR.o.symm.trans (H31.o hg));clear hq hg HG
    go_wp2_with (go_at_call 94;refine HSP.o.mono ?_;rw [HQ.o];rintro e w2 ⟨rfl,b2⟩;have B2:=hid b2;clear b2)
    go_ret2
    exact⟨by rw [hfin.out];rfl,(B1.out.trans (HO.o.below.mono hsz1)).trans (B2.out.mono (Nat.le_trans hsz1 hsz))⟩
   ·have HQ:=hid hq
    have hfin:=hid (HR.o.symm.trans (H31.o hg))
    subst hx0
    have hne:=iY (mkS (aac kind 0)) (by rw [aG];exact List.length_pos_iff.2 HTN.o)
    clear hq hg HG
    generalize mkS (aac kind 0)=s at *
    go_wp2_with (go_at_call 94;refine HSP.o.mono ?_;rw [HQ.o];rintro e w2 ⟨rfl,b2⟩;have B2:=hid b2;clear b2)
    go_ret2
    exact⟨by rw [hfin.out];rfl,(B1.out.trans (HO.o.below.mono hsz1)).trans (B2.out.mono (Nat.le_trans hsz1 hsz))⟩
   have HQ:=hid hq;have ac9:=hid (XO.o hg)
   have hx1:(x==0)=false:=by simpa using hx0
   have hne:=iY (mkS (aac kind x)) (by rw [aG];exact List.length_pos_iff.2 HTN.o)
   clear hq hg HG hx0 XO
   generalize mkS (aac kind x)=s at *
   go_wp2_with (first
    | (go_at_call 94;refine HSP.o.mono ?_;rw [HQ.o];rintro e w2 ⟨rfl,b2⟩;have fG:=hid (HO.o.call b2);clear b2)
    | (at_builtin;refine aB rfl _ _ 110 rfl w1.heap.size 9 i0 (.string ByteArray.empty) 16 Tryz.underlying110 hi hz0 hz1 hz2 rfl _ k _ rfl fG.o.own _ rfl rfl (by unfold maxLen;omega) (by omega) fG.o.size ?_;intro gg cap2 w5 hown hg5;have tZ:=hid (fG.o.push hown hg5);clear hown hg5))
   go_roundw
   case rel=>exact⟨k+1,by omega,by go_num,ac9,hid (by rw [HS.o];exact tZ.o)⟩
   case measure=>simp [intOf];omega
  have hke:k=cs.length:=by omega
  subst hke
  rw [List.take_length] at HO;have HRD:=hid (Rd.aN HO.o.own);obtain⟨_,A,cap,rfl,_,_⟩:=HRD.o
  have HSH:=hid (HR.o.symm.trans (abO kind cs HK.o (fun j hj=>HN.o j hj hj)))
  by_cases h64:64 < cs.length
  ·have Wq:(64:Int) < (cs.length:Int):=by omega
   have hfin:=hid (show r=([],32) by rw [HSH.o,if_pos h64])
   go_wp2
   go_ret2
   exact⟨by rw [hfin.out];rfl,B1.out.trans (HO.o.below.mono hsz1)⟩
  have Wq:¬(64:Int) < (cs.length:Int):=by omega
  have hfin:=hid (show r=(aar kind cs,0) by rw [HSH.o,if_neg h64])
  have hjl:=aa' kind cs HB.o;have HL:=hid (aaS kind cs)
  by_cases hk3:kind=3
  ·subst hk3
   have HJ:=hid (aaw 3 cs ⟨#[44]⟩ rfl)
   go_wp2_with (go_at_call 95;refine (aa6 _ (aai 3 cs) ⟨#[44]⟩ _ (by rw [HL.o];exact HRD.o) (by rw [HL.o];omega) (by rw [HJ.o];omega)).mono ?_;rw [HJ.o];rintro e w3 ⟨rfl,b3⟩;have B3:=hid b3;clear b3)
   go_ret2
   exact⟨by rw [hfin.out];rfl,(B1.out.trans (HO.o.below.mono hsz1)).trans (B3.out.mono (Nat.le_trans hsz1 hsz))⟩
  have hkb:(kind==3)=false:=by simpa using hk3
  have HJ:=hid (aaw kind cs ⟨#[]⟩ (by unfold abl;rw [if_neg hk3]))
  go_wp2_with (go_at_call 95;refine (aa6 _ (aai kind cs) ⟨#[]⟩ _ (by rw [HL.o];exact HRD.o) (by rw [HL.o];omega) (by rw [HJ.o];omega)).mono ?_;rw [HJ.o];rintro e w3 ⟨rfl,b3⟩;have B3:=hid b3;clear b3)
  go_ret2
  exact⟨by rw [hfin.out];rfl,(B1.out.trans (HO.o.below.mono hsz1)).trans (B3.out.mono (Nat.le_trans hsz1 hsz))⟩
 have HK:=hid hko;have hR:=hid (abP kind (canon zs) hko);clear hko hk
 go_enter Tryz.func67,Tryz.ntmps67
 go_wp2_with (go_at_call 89;refine (mJ _ _).mono ?_;rw [HK.o];rintro e w1 ⟨rfl,rfl⟩)
 go_ret2
 exact⟨by rw [hR.out];rfl,Below.refl _ _⟩
def aae (kind:Int) (al:List (List Int)) (zs:List Int):ByteArray×Int :=
 if al.length=0 then (mkS (aah kind (canon zs)).1,(aah kind (canon zs)).2) else match al.findIdx? (fun a=>decide (canon a=canon zs)) with
  | none=>(⟨#[]⟩,31)
  | some k=>(aaP ((k:Int)+1),0)
theorem aax (kind:Int) (al:List (List Int)) (zs:List Int) (h:al.length=0):aae kind al zs=(mkS (aah kind (canon zs)).1,(aah kind (canon zs)).2):=by rw [aae,if_pos h]
theorem aaV {kind:Int} {cs:List Int} (hk:kind=1∨kind=2∨kind=3) (hg:cs.all (aag kind)=true) (hl:cs.length≤64):aah kind cs=(aar kind cs,0):=by
 unfold aah
 rw [if_neg (by rw [aa9 hk];decide),if_neg (by rw [hg];decide),if_neg (by omega)]
theorem aaW (F:Fl) (s:ByteArray) (hn:∀a∈F.aI,a≠[]) (h:(aQ F s).2=0):(aQ F s).1≠[]∧(aae F.kind F.aI (aQ F s).1).2=0:=by
 by_cases h0:F.aI.length=0
 ·have e:aQ F s=bS F.kind s.data.toList:=by rw [aQ,if_pos h0]
  rw [e] at h ⊢;obtain⟨hk,hne,hg,hc⟩:=aav F.kind s.data.toList h
  refine⟨hne,?_⟩
  rw [aax _ _ _ h0,hc,aaV hk hg (aa8 _ _)]
 by_cases h1:bI s.data.toList F.aI.length≠0∨aJ s.data.toList F.aI.length=0
 ·have e:aQ F s=([],13):=by rw [aQ,if_neg h0,if_pos h1]
  rw [e] at h;simp at h
 obtain⟨b0,b1⟩:=dJ s.data.toList F.aI.length (by omega)
 have hlt:(aJ s.data.toList F.aI.length - 1).toNat < F.aI.length:=by omega
 have e:aQ F s=(F.aI[(aJ s.data.toList F.aI.length - 1).toNat],0):=by
  rw [aQ,if_neg h0,if_neg h1,List.getD,List.getElem?_eq_getElem hlt]
  rfl
 rw [e]
 generalize (aJ s.data.toList F.aI.length - 1).toNat=k at hlt
 refine⟨hn _ (List.getElem_mem hlt),?_⟩
 dsimp only
 cases hw:F.aI.findIdx? (fun a=>decide (canon a=canon F.aI[k])) with
 | none =>
  rw [List.findIdx?_eq_none_iff] at hw
  have:=hw F.aI[k] (List.getElem_mem hlt)
  simp at this
 | some j =>
  rw [aae,if_neg h0,hw]
def aaj (F:Fl):Prop:=∀a∈F.aI,a≠[]
theorem abd {c:Cl} (F:Fl) (l:Int) (r:List ByteArray) (F':Fl) (h0:aaj F) (h:bZ c F l r=.ok F'):aaj F':=by
 unfold bZ at h
 split at h
 ·cases h
 cases h;exact h0
theorem acg (F:Fl) (l:Int) (r:List ByteArray) (F':Fl) (h0:aaj F) (h:gV F l r=.ok F'):aaj F':=by
 unfold gV at h
 split at h
 ·cases h
 split at h
 ·cases h
 split at h
 ·cases h
 cases h;exact h0
theorem abv (F:Fl) (l:Int) (r:List ByteArray) (F':Fl) (h0:aaj F) (h:eT F l r=.ok F'):aaj F':=by
 unfold eT at h
 split at h
 ·cases h
 split at h
 ·cases h
 rename_i he
 cases h
 intro a ha
 rcases List.mem_append.1 ha with ha | ha
 ·exact h0 a ha
 simp only [List.mem_singleton] at ha
 subst ha
 exact (aav _ _ (by omega)).2.1
theorem abR {end_:Int} {S S':Sx} {row:List ByteArray} {k:Nat} (h0:aaj S.fl) (h:iy end_ S row k=.ok S'):aaj S'.fl:=by
 unfold iy at h
 split at h
 ·obtain⟨F,hF,rfl⟩:=jh h
  unfold kL at hF
  split at hF
  ·cases hF
  split at hF
  ·cases hF
  cases hF;exact h0
 split at h
 ·obtain⟨F,hF,rfl⟩:=jh h
  unfold oW at hF
  split at hF
  ·cases hF
  cases hF;exact h0
 split at h
 ·obtain⟨F,hF,rfl⟩:=jh h
  unfold xO at hF
  split at hF
  ·cases hF
  cases hF;exact h0
 split at h
 ·obtain⟨F,hF,rfl⟩:=jh h
  unfold gX at hF
  split at hF
  ·cases hF
  cases hF
  show aaj (eG _ _ _)
  unfold aaj eG
  split<;>exact h0
 split at h
 ·obtain⟨F,hF,rfl⟩:=jh h
  unfold jI at hF
  split at hF
  ·cases hF
  cases hF;exact h0
 split at h
 ·unfold nW at h
  split at h
  ·cases h
  exact aal acg _ _ _ h0 h
 split at h
 ·unfold jf at h
  split at h
  ·cases h
  split at h
  ·cases h
  exact aal abv _ _ _ h0 h
 unfold fK at h
 split at h
 ·cases h
 split at h
 ·cases h
 split at h
 ·cases h
 split at h
 ·cases h
 exact aal (P:=aaj) (fun F l r F' h1 h2=>abd F l r F' h1 h2) _ _ _ (by exact h0) h
theorem aa7 {end_:Int}:∀(n:Nat) (S S':Sx),aaj S.fl→dS end_ n S=.ok S'→aaj S'.fl
 | 0,S,S',h0,h=>by rw [dS] at h;cases h;exact h0
 | n+1,S,S',h0,h=>by
   rw [dS] at h
   split at h
   ·cases h;exact h0
   ·split at h
    ·cases h
    ·rename_i hs
     refine aa7 n _ S' ?_ h
     unfold iN at hs
     split at hs
     ·cases hs
     split at hs
     ·cases hs
     split at hs
     ·cases hs
     split at hs
     ·cases hs
     ·rename_i S3 hh
      cases hs
      have h2:aaj S3.fl:=by
       refine abR ?_ hh
       exact h0
      exact h2
theorem abS {l:List UInt8} {F:Fl} (h:gY l=.ok F):aaj F:=by
 unfold gY at h
 split at h
 ·cases h
 split at h
 ·cases h
 rename_i hr
 split at h
 ·cases h
 cases h
 exact aa7 _ _ _ (by intro r hr;cases hr) hr
theorem abw (u v:Value) (b:Nat) (a zs:List Int) (w:World) (hu:FS w u a) (hc:w.cell? ⟨b,0,none⟩=some v) (hv:FS w v zs) (h1:a.length≤65536) (h2:zs.length≤4194304) :
  Calls Tryz.prog 69 #[u,.pointer (some ⟨b,0,none⟩)] w fun e w'=>e=.returned (.bool (decide (canon a=canon zs)))∧Below w.heap.size w w':=by
 have HE:=hid (aas u v a zs w hu hv (by omega) (by omega))
 obtain⟨p,c,rfl,-,-⟩:=hu;obtain⟨p2,c2,rfl,-,-⟩:=hv
 generalize decide (canon a=canon zs)=r at *
 go_enter Tryz.func69,Tryz.ntmps69
 go_wp2_with (go_at_call 35;refine HE.o.mono ?_;rintro e w2 ⟨rfl,hb⟩;have HB:=hid hb;clear hb)
 go_ret
 exact⟨rfl,HB.o⟩
def aaF (al:List (List Int)) (zs:List Int):Int:=match al.findIdx? (fun a=>decide (canon a=canon zs)) with | some k=>k | none=>-1
theorem abx (al:List (List Int)) (zs:List Int) (k:Nat) (hk:k < al.length) (he:canon al[k]=canon zs) (hne:∀j (hj:j < al.length),j < k→canon al[j]≠canon zs):aaF al zs=k:=by
 have:al.findIdx? (fun a=>decide (canon a=canon zs))=some k:=by
  rw [List.findIdx?_eq_some_iff_getElem]
  exact⟨hk,by rw [decide_eq_true_eq];exact he,fun j hj=>by rw [decide_eq_true_eq];exact hne j (by omega) hj⟩
 unfold aaF;rw [this]
theorem abe (al:List (List Int)) (zs:List Int) (hne:∀j (hj:j < al.length),canon al[j]≠canon zs):aaF al zs = -1:=by
 have:al.findIdx? (fun a=>decide (canon a=canon zs))=none:=by
  rw [List.findIdx?_eq_none_iff]
  intro x hx
  obtain⟨j,hj,rfl⟩:=List.getElem_of_mem hx;rw [decide_eq_false_iff_not]
  exact hne j hj
 unfold aaF;rw [this]
theorem aaX (kind:Int) (al:List (List Int)) (zs:List Int) (h0:al.length≠0):(aaF al zs = -1∧aae kind al zs=(⟨#[]⟩,31))∨∃k:Nat,k < al.length∧aaF al zs=k∧aae kind al zs=(aaP ((k:Int)+1),0):=by
 unfold aaF aae
 rw [if_neg h0]
 cases h:al.findIdx? (fun a=>decide (canon a=canon zs)) with
 | none=>exact .inl ⟨rfl,rfl⟩
 | some k=>exact .inr ⟨k,(List.findIdx?_eq_some_iff_getElem.1 h).1,rfl,rfl⟩
theorem aay (av v:Value) (b:Nat) (us:List Value) (al:List (List Int)) (zs:List Int) (w:World) (hr:Rd w 1 av al.length us) (hn:al.length≤65536) (hs:∀(k:Nat) u a,us[k]?=some u→al[k]?=some a→FS w u a) (hl:∀a∈al,a.length≤65536)
  (hc:w.cell? ⟨b,0,none⟩=some v) (hv:FS w v zs) (h2:zs.length≤4194304) :
  Calls Tryz.prog 68 #[av,.func (.func 69) #[] #[.pointer (some ⟨b,0,none⟩)]] w fun e w'=>e=.returned (.int .i64 (aaF al zs))∧Below w.heap.size w w':=by
 obtain⟨h1,A,cp,rfl,hcap,hcells⟩:=hr
 have HC:=hid hcells;have HS:=hid hs;have OJ:=hid hl;have HV:=hid hv;have UO:=hid hc
 have Q5:us.length=al.length:=by omega
 have HU:=hid Q5;clear hcells hs hl hv hc h1 Q5
 go_enter Tryz.func68,Tryz.ntmps68
 go_wp2_with fail
 go_loopw [5,8] (fun _ i wr=>∃k:Nat,k≤al.length∧i=.int .i64 k∧Hid (Below w.heap.size w wr)∧Hid (∀j (hj:j < al.length),j < k→canon al[j]≠canon zs)) (fun _ i _=>al.length - (intOf i).toNat)
 case atStart=>exact⟨0,Nat.zero_le _,rfl,hid (Below.refl _ _),hid (fun j _ hj=>absurd hj (Nat.not_lt_zero _))⟩
 case round =>
 obtain⟨k,hk,rfl,HB,HN⟩:=hrel
 by_cases hlt:k < al.length
 ·obtain⟨g,off,rfl,hc⟩:=HC.o.resolve_left (by omega)
  have hku:k < us.length:=by have:=HU.o;omega
  have hfs:=HS.o k us[k] al[k] (List.getElem?_eq_getElem hku) (List.getElem?_eq_getElem hlt)
  have c1:=hc k us[k] (List.getElem?_eq_getElem hku)
  have d1:=(HB.o.cell (block_lt_of_cell? _ _ c1)).trans c1;have hal:=OJ.o al[k] (List.getElem_mem hlt);have HX:=hid (abw us[k] v b al[k] zs wr (hfs.keep HB.o) ((HB.o.cell (block_lt_of_cell? _ _ UO.o)).trans UO.o) (HV.o.keep HB.o) hal h2)
  have ach:Hid (decide (canon al[k]=canon zs)=true→aaF al zs=k):=hid (fun he=>abx al zs k hlt (of_decide_eq_true he) HN.o)
  have OW:Hid (decide (canon al[k]=canon zs)=false→∀j (hj:j < al.length),j < k+1→canon al[j]≠canon zs):=hid (fun he j hj hjk=>by
   by_cases e:j=k
   ·subst e;exact of_decide_eq_false he
   exact HN.o j hj (by omega))
  generalize hr:decide (canon al[k]=canon zs)=r at *
  obtain⟨p,c,hu,-,-⟩:=hfs;rw [hu] at d1 HX;clear hc c1 hu hr hal
  cases r
  ·have VP:=hid (OW.o rfl)
   clear OW ach
   go_wp2_with (go_at_call 69;refine HX.o.mono ?_;rintro e w2 ⟨rfl,hb⟩;have HB2:=hid (HB.o.trans (hb.mono HB.o.size));clear hb)
   go_roundw
   case rel=>exact⟨k+1,by omega,by go_num,HB2,VP⟩
   case measure=>simp [intOf];omega
  have HI:=hid (ach.o rfl)
  clear OW ach
  go_wp2_with (go_at_call 69;refine HX.o.mono ?_;rintro e w2 ⟨rfl,hb⟩;have HB2:=hid (HB.o.trans (hb.mono HB.o.size));clear hb)
  go_ret
  exact⟨by rw [HI.o];rfl,HB2.o⟩
 obtain rfl:k=al.length:=by omega
 have HI:=hid (abe al zs (fun j hj=>HN.o j hj hj))
 go_wp2_with fail
 go_ret
 exact⟨by rw [HI.o];rfl,HB.o⟩
def WrP (r:ByteArray×Int) (w:World) (e:Ending) (w':World):Prop:=e=.returned (.tuple #[.string r.1,.int .i64 r.2])∧Below w.heap.size w w'
theorem aaG (fb:Nat) (kind:Int) (av v:Value) (us:List Value) (al:List (List Int)) (zs:List Int) (w:World) (h:xW w fb kind av us al) (hn:al.length≤65536) (hv:FS w v zs) (hbd:∀x∈zs,0≤x∧x≤65535) (h2:zs.length≤4194304) (ht:aad w) :
  Calls Tryz.prog 37 #[.pointer (some ⟨fb,0,none⟩),v] w (WrP (aae kind al zs) w):=by
 have HK0:=hid h.kind
 have Q6:=hid h.aI;obtain⟨h1,A,cp,rfl,hcap,hcells⟩:=h.row;obtain⟨p,c,rfl,hcap2,eY⟩:=hv;have HV:Hid (FS w (.slice p zs.length c) zs):=hid ⟨p,c,rfl,hcap2,eY⟩;have HR:Hid (Rd w 1 (.slice A al.length cp) al.length us):=hid ⟨h1,A,cp,rfl,hcap,hcells⟩;have HS:=hid h.sets;have HCn:=hid h.NR;have HT:=hid ht;have HD:=hid hbd;have Fp:=block_lt_of_cell? _ _ h.kind;obtain⟨wb,hwb⟩:∃W,w.alloc (.cells #[.slice p zs.length c] 29)=W:=⟨_,rfl⟩
 have HB0:Hid (Below w.heap.size w wb):=hid (by rw [←hwb];exact (Below.refl _ _).alloc (Nat.le_refl _) _)
 have Z5:Hid (wb.cell? ⟨w.heap.size,0,none⟩=some (.slice p zs.length c)):=hid (by rw [←hwb,cell_of_heap (heap_alloc_new w _)];rfl)
 clear hcells h h1 eY ht hbd
 by_cases h0:al.length=0
 ·have e0:((al.length:Int)==0)=true:=by rw [h0];rfl
  have hX:=aax kind al zs h0
  have HQ:Hid (∀W,Below w.heap.size w W→Calls Tryz.prog 67 #[.int .i64 kind,.slice p zs.length c] W (WrP (aae kind al zs) W)):=hid (fun W hW=>by
   rw [hX]
   exact abQ kind _ zs W (HV.o.keep hW) HD.o (by omega) (HT.o.below hW))
  unfold WrP at HQ ⊢;obtain⟨r,hr⟩:∃r,aae kind al zs=r:=⟨_,rfl⟩;rw [hr] at HQ ⊢
  have wJ:Hid (∀W,Below w.heap.size w W→W.cell? ⟨fb,0,none⟩=some (.int .i64 kind)):=hid (fun W hW=>(hW.cell Fp).trans HK0.o)
  have HSu:Hid (∀W,Below wb.heap.size wb W→W.cell? ⟨w.heap.size,0,none⟩=some (.slice p zs.length c)):=hid (fun W hW=>(hW.cell (block_lt_of_cell? _ _ Z5.o)).trans Z5.o)
  have c10:wb.cell? ⟨fb,10,none⟩=some (.slice A al.length cp):=(HB0.o.cell (block_lt_of_cell? _ _ Q6.o)).trans Q6.o;clear hr hX h0 Z5
  go_enter Tryz.func37,Tryz.ntmps37
  go_upto_region 1 with fail
  clear hwb
  go_upto_region 4 with fail
  refine wp_region_held_drew (S:=fun W=>W.cell? ⟨fb,0,none⟩=some (.int .i64 kind)∧W.cell? ⟨w.heap.size,0,none⟩=some (.slice p zs.length c)) (by kernel_rfl) ?_ (fun hHeld=>?_)
  ·exact⟨wJ.o _ (HB0.o.trans (ah.mono HB0.o.size)),HSu.o _ ah⟩
  refine aA 0 (some 16) hHeld ?_;try simp only [aj]
  refine aA 1 (some 17) hHeld ?_;try simp only [aj]
  refine aA 2 (some 18) hHeld ?_;try simp only [aj]
  refine aA 3 (some 19) hHeld ?_;try simp only [aj]
  refine aA 4 (some 20) hHeld ?_;try simp only [aj]
  refine aA 5 (some 21) hHeld ?_;try simp only [aj]
  refine aP 6 (fun K hK=>?_)
  go_simp
  refine (HQ.o _ (HB0.o.trans (ah.mono HB0.o.size))).mono ?_
  rintro e w8 ⟨rfl,mQ⟩
  have oH:=hid ((ah (w:=wb)).trans mQ);clear mQ
  refine hK.out _ _ ?_ (fun hHeld=>?_)
  ·exact⟨wJ.o _ (HB0.o.trans (oH.o.mono HB0.o.size)),HSu.o _ oH.o⟩
  clear hK K
  refine aA 7 (some 23) hHeld ?_;try simp only [aj]
  refine aA 8 (some 24) hHeld ?_;try simp only [aj]
  refine aA 9 (some 4) hHeld ?_;try simp only [aj]
  refine aA 10 (some 5) hHeld ?_;try simp only [aj]
  refine wpAnyH_done (by kernel_rfl) ?_ _
  go_wp2_with fail
  go_ret2
  exact⟨rfl,HB0.o.trans (oH.o.mono HB0.o.size)⟩
 have e0:((al.length:Int)==0)=false:=by rw [beq_eq_false_iff_ne];omega
 have c10:wb.cell? ⟨fb,10,none⟩=some (.slice A al.length cp):=(HB0.o.cell (block_lt_of_cell? _ _ Q6.o)).trans Q6.o
 have HI:=hid (aay _ (.slice p zs.length c) w.heap.size us al zs wb (HR.o.keep HB0.o) hn (fun k u a hu ha=>(HS.o k u a hu ha).keep HB0.o) (fun a ha=>(HCn.o a ha).2) Z5.o (HV.o.keep HB0.o) h2)
 have hcs:=aaX kind al zs h0
 have HP:Hid (∀W,Below wb.heap.size wb W→aad W):=hid (fun W hW=>HT.o.below (HB0.o.trans (hW.mono HB0.o.size)))
 unfold WrP
 rcases hcs with ⟨hi,hw⟩ | ⟨k,hk,hi,hw⟩
 ·rw [hi] at HI
  rw [hw];clear hw hi h0 Z5
  go_enter Tryz.func37,Tryz.ntmps37
  go_upto_region 1 with fail
  clear hwb
  go_wp2_with (go_at_call 68;refine HI.o.mono ?_;rintro e w2 ⟨rfl,hb⟩;have HB:=hid (HB0.o.trans (hb.mono HB0.o.size));clear hb)
  go_ret2
  exact⟨rfl,HB.o⟩
 rw [hi] at HI;rw [hw]
 have HDc:Hid (∀W,Below wb.heap.size wb W→Calls Tryz.prog 70 #[.int .i64 ((k:Int)+1)] W fun e w'=>e=.returned (.string (aaP ((k:Int)+1)))∧Below W.heap.size W w'):=hid (fun W hW=>aaq ((k:Int)+1) W (by omega) (by omega) (HP.o W hW))
 have hk0:¬((k:Int) < 0):=by omega
 have hw1:IntKind.i64.wrap ((k:Int)+1)=(k:Int)+1:=by rw [IntKind.wrap_i64];omega
 clear hw hi h0 Z5
 generalize aaP ((k:Int)+1)=t at *
 go_enter Tryz.func37,Tryz.ntmps37
 go_upto_region 1 with fail
 clear hwb
 go_wp2_with (first
  | (go_at_call 68;refine HI.o.mono ?_;rintro e w2 ⟨rfl,hb⟩;have HB1:=hid hb;clear hb)
  | (go_at_call 70;refine (HDc.o _ HB1.o).mono ?_;rintro e w3 ⟨rfl,hb⟩;have HB:=hid (HB0.o.trans ((HB1.o.trans (hb.mono HB1.o.size)).mono HB0.o.size));clear hb))
 go_ret2
 exact⟨rfl,HB.o⟩
theorem abf (fb:Nat) (F:Fl) (v:Value) (zs:List Int) (w:World) (h:gu w fb F) (hok:iU F) (hv:FS w v zs) (hbd:∀x∈zs,0≤x∧x≤65535) (h2:zs.length≤4194304) (ht:aad w) :
  Calls Tryz.prog 37 #[.pointer (some ⟨fb,0,none⟩),v] w (WrP (aae F.kind F.aI zs) w):=by
 obtain⟨av,us,hf⟩:=h.WV hok
 exact aaG fb F.kind av v us F.aI zs w hf hok.aI hv hbd h2 ht
theorem abg (v:Value) (zs:List Int) (w:World) (h:IS w v zs) (hl:zs.length≤65536) :
  Calls Tryz.prog 61 #[v] w fun e w'=>∃v',e=.returned v'∧IS w' v' zs∧Below w.heap.size w w':=by
 obtain⟨p,c,rfl,hcap,hs⟩:=h
 by_cases h0:zs.length=0
 ·obtain rfl:zs=[]:=List.eq_nil_of_length_eq_zero h0
  rcases p with _ | a
  ·exact (Tryz.slices_Clone_int_nil 0 c w).mono (by rintro e w' ⟨rfl,rfl⟩;exact⟨_,rfl,IS.nil _,Below.refl _ _⟩)
  exact (Tryz.slices_Clone_int_zero a c w).mono (by rintro e w' ⟨v',rfl,ho,-,hb⟩;exact⟨v',rfl,IS.aN (zs:=[]) ho,hb⟩)
 obtain⟨b,off,rfl,hc⟩:=hs.resolve_left h0
 refine (Tryz.slices_Clone_int b off zs.length c zs w (Nat.le_refl _) (by omega) hc).mono ?_
 rintro e w' ⟨v',rfl,ho,-,hb⟩
 rw [List.take_of_length_le (Nat.le_refl _)] at ho
 exact⟨v',rfl,IS.aN ho,hb⟩
theorem aaK (wb:Nat) (es:List En) (s:ByteArray) (w:World) (h:iH w wb es) (hs:s.size≤maxLen) (hl:(D8 es s).length≤65536) :
  Calls Tryz.prog 33 #[.pointer (some ⟨wb,0,none⟩),.string s] w fun e w'=>∃v,e=.returned v∧IS w' v (D8 es s)∧Below w.heap.size w w':=by
 obtain⟨mb,lv,xs,h1,-,-,-,B,n,hd,h5⟩:=h
 have c1:w.cell? ⟨wb,1,none⟩=some (.map (some mb)):=by rw [cell_of_heap h1];rfl
 have hlk:=h5.look s hs (by kernel_rfl)
 have HR:=hid (IS.aN (h5.rows s));have HC:=hid (abg (hd s) (D8 es s) w HR.o hl);clear h1 h5
 go_enter Tryz.func33,Tryz.ntmps33
 go_wp2_with (go_at_call 61;refine HC.o.mono ?_;rintro e w1 ⟨v1,rfl,hv1,hb1⟩;have HV:=hid hv1;have HB:=hid hb1;clear hv1 hb1)
 go_ret
 exact⟨_,rfl,HV.o,HB.o⟩
theorem aaL (s:ByteArray):∀(es:List En) (k:Nat),(zB s k es).length≤es.length
 | [],k=>by rw [zB];exact Nat.le_refl _
 | y::r,k=>by
   have ih:=aaL s r (k+1)
   rw [zB]
   split<;>simp<;>omega
theorem abz (es:List En) (s:ByteArray):(D8 es s).length≤es.length:=aaL s es 0
def acj (F:Fl) (zs:List Int):Prop:=zs=[]∨(aae F.kind F.aI zs).2=0
theorem abT {F:Fl} (ha:aaj F) {row:List ByteArray} {x:En} (h:jy F row=.ok x):acj F x.2:=by
 unfold jy at h
 split at h
 ·cases h
 split at h
 split at h
 ·cases h
 unfold gy at h
 split at h
 ·cases h
 split at h
 ·cases h
 split at h
 ·cases h;exact .inl rfl
 unfold nJ at h
 split at h
 ·cases h
 rename_i h2
 split at h
 ·cases h;exact .inr (aaW F _ ha (by simpa using h2)).2
 cases h
theorem abC {F:Fl} (ha:aaj F) {count:Int}:∀(all:List Row) (i:Nat) (xs:List En),vS F count i all=.ok xs→∀x∈xs,acj F x.2
 | [],i,xs,h=>by rw [nK] at h;cases h;intro x hx;cases hx
 | (l,row)::rest,i,xs,h=>by
   rw [vS] at h
   split at h
   ·cases h
   ·split at h
    ·cases h
    ·rename_i y hy
     split at h
     ·cases h
     ·rename_i ys hys
      cases h
      intro x hx
      rcases List.mem_cons.1 hx with rfl | hx
      ·exact abT ha hy
      ·exact abC ha rest (i+1) ys hys x hx
theorem abU {F:Fl} (ha:aaj F) {t:List UInt8} {es:List En} (h:mg F t=.ok es):∀x∈es,acj F x.2:=by
 unfold mg at h
 split at h
 ·cases h
 generalize rowsOf (aC t)=rows at h
 unfold dh at h
 split at h
 ·cases h
 split at h
 ·cases h
 split at h
 ·cases h
 split at h
 ·cases h
 rename_i xs hx
 split at h
 ·cases h
 cases h
 exact abC ha _ _ _ hx
theorem aaY {a d:List UInt8} {F:Fl} {es:List En} (h:yw a d=.ok (F,es)):gY a=.ok F∧mg F d=.ok es:=by
 unfold yw at h
 split at h
 ·cases h
 rename_i G hG
 split at h
 ·cases h
 rename_i xs hx
 cases h
 exact⟨hG,hx⟩
theorem TabAt.parts {w:World} {tb:Nat} {F:Fl} {es:List En} (h:TabAt w tb F es):∃fb wb,w.cell? ⟨tb,0,none⟩=some (.pointer (some ⟨fb,0,none⟩))∧w.cell? ⟨tb,1,none⟩=some (.pointer (some ⟨wb,0,none⟩))∧gu w fb F∧iH w wb es:=by
 obtain⟨fb,wb,a,ev,h1,h2,h3,-⟩:=h
 exact⟨fb,wb,by rw [cell_of_heap h1];rfl,by rw [cell_of_heap h1];rfl,h2,h3⟩
theorem aaM (F:Fl) (vr va vc vl:Value) (W:World):(Instr.field 83 (.agg #[.int .i64 F.kind,.string F.charset,.string F.qI,.int .u16 F.s0,.int .u16 F.s1,.int .u16 F.s2,.int .u16 F.s3,.int .u16 F.s4,.int .i64 F.least,vr,va,vc,vl]) 8).run Tryz.prog W=.ok vl W:=by
 first | kernel_rfl | rfl | simp [go_sem]
theorem abV (W:World) (n:Nat) (a1 a2:Int) (a3:Bool) (a4 a5:Int) (h:W.heap[n]?=some (.cells #[.int .u16 0,.int .i64 0,.bool false,.int .i64 0,.int .i64 0] 99 (0,0))) :
  (((((W.setCell ⟨n,0,none⟩ (.int .u16 a1)).setCell ⟨n,1,none⟩ (.int .i64 a2)).setCell ⟨n,2,none⟩ (.bool a3)).setCell ⟨n,3,none⟩ (.int .i64 a4)).setCell ⟨n,4,none⟩ (.int .i64 a5)).heap[n]?=some (.cells #[.int .u16 a1,.int .i64 a2,.bool a3,.int .i64 a4,.int .i64 a5] 99 (0,0)):=by
 have h1:=heap_setCell_same _ n 0 _ _ (.int .u16 a1) h
 have h2:=heap_setCell_same _ n 1 _ _ (.int .i64 a2) h1;have h3:=heap_setCell_same _ n 2 _ _ (.bool a3) h2;have h4:=heap_setCell_same _ n 3 _ _ (.int .i64 a4) h3;have h5:=heap_setCell_same _ n 4 _ _ (.int .i64 a5) h4;simp only [List.setIfInBounds_toArray,List.set_cons_succ,List.set_cons_zero] at h5
 exact h5
theorem aam (a d s:ByteArray) (m0:Int) (w:World) (h0:0 < w.heap.size) (hm:w.cell? ⟨0,0,none⟩=some (.int .i64 m0)) (hs:s.size≤1048576) (ht:aad w) :
  Calls Tryz.prog 9 #[.string a,.string d,.string s] w fun e w'=>e=.returned (.bool true)∧Below w.heap.size w w':=by
 have HM:Hid (∀W,Below w.heap.size w W→0 < W.heap.size∧W.cell? ⟨0,0,none⟩=some (.int .i64 m0)):=hid (fun W hW=>⟨Nat.lt_of_lt_of_le h0 hW.size,(hW.cell (block_lt_of_cell? _ _ hm)).trans hm⟩)
 have HW:Hid (∀W,Below w.heap.size w W→Calls Tryz.prog 11 #[] W fun e w'=>e=.returned (.bool true)∧Below W.heap.size W w'):=hid (fun W hW=>UF m0 W (HM.o W hW).1 (HM.o W hW).2)
 have HP:Hid (∀W,Below w.heap.size w W→aad W):=hid (fun W hW=>ht.below hW)
 have o7:=hid hs;have HR:=hid (aaQ a d m0 w h0 hm);unfold LtP at HR;clear h0 hm hs ht
 cases hr:yw a.data.toList d.data.toList with
 | error p =>
  rw [hr] at HR
  dsimp only at HR;clear hr
  go_enter Tryz.func9,Tryz.ntmps9
  go_wp2_with (first
   | (go_at_call 10;refine HR.o.mono ?_;rintro e w1 ⟨hb1,rfl⟩;have HB1:=hid hb1;clear hb1)
   | (go_at_call 11;refine (HW.o _ HB1.o).mono ?_;rintro e w2 ⟨rfl,hb2⟩;have HB2:=hid (HB1.o.trans (hb2.mono HB1.o.size));clear hb2))
  go_ret
  exact⟨by simp,HB2.o⟩
 | ok p =>
  obtain⟨F,es⟩:=p
  obtain⟨har,hdr⟩:=aaY hr;have HWr:=hid (abU (abS har) hdr)
  have HAr:Hid (∀W,Below w.heap.size w W→Calls Tryz.prog 16 #[.string a] W fun e w'=>Below W.heap.size W w'∧∃fb,e=.returned (.tuple #[.pointer (some ⟨fb,0,none⟩),.agg #[.int .i64 0,.int .i64 0,.int .i64 0]])∧gu w' fb F∧iU F∧W.heap.size≤fb):=hid (fun W hb=>by
   have:=F6 a m0 W (HM.o W hb).1 (HM.o W hb).2
   unfold ME at this;rw [har] at this
   exact this)
  have HDi:Hid (∀fb W,gu W fb F→iU F→Below w.heap.size w W→Calls Tryz.prog 18 #[.pointer (some ⟨fb,0,none⟩),.string d] W fun e w'=>Below W.heap.size W w'∧∃wb,e=.returned (.tuple #[.pointer (some ⟨wb,0,none⟩),.agg #[.int .i64 0,.int .i64 0,.int .i64 0]])∧iH w' wb es∧W.heap.size≤wb):=hid (fun fb W hf hok hb=>by
   have:=yc fb F d m0 W hf hok (HM.o W hb).1 (HM.o W hb).2
   rw [hdr] at this
   exact this)
  rw [hr] at HR;dsimp only at HR;clear hr har hdr
  go_enter Tryz.func9,Tryz.ntmps9
  go_upto_region 6 with (first
   | (go_at_call 10;refine HR.o.mono ?_;rintro e w1 ⟨hb1,tb,ub,rfl,ht,hq,hok,-,-⟩;have HB1:=hid hb1;have HT1:=hid ht;have HQ1:=hid hq;have jr:=hid hok;clear hb1 ht hq hok)
   | (go_at_call 11;refine (HW.o _ HB1.o).mono ?_;rintro e w2 ⟨rfl,hb2⟩;have HB2:=hid (HB1.o.trans (hb2.mono HB1.o.size));have HT2:=hid (HT1.o.keep hb2);have K_:=hid (HQ1.o.keep hb2);clear hb2))
  obtain⟨fb,wb,cf,cw,hfa,Un⟩:=HT2.o.parts;obtain⟨rf,A,cp,rs,c0,c12,hrm,-,-,-⟩:=K_.o.file
  have PG:rs.length=F.rls.length:=by rw [←hrm];simp
  rw [PG] at c12;have htl:=HT2.o.lt;have Q5:ub < w2.heap.size:=block_lt_of_cell? _ _ c0;have ab5:rf < w2.heap.size:=block_lt_of_cell? _ _ c12
  have oF:Hid (∀W,Below w2.heap.size w2 W→W.cell? ⟨tb,0,none⟩=some (.pointer (some ⟨fb,0,none⟩))∧W.cell? ⟨tb,1,none⟩=some (.pointer (some ⟨wb,0,none⟩))∧W.cell? ⟨ub,0,none⟩=some (.pointer (some ⟨rf,0,none⟩))∧W.cell? ⟨rf,12,none⟩=some (.slice A F.rls.length cp)):=hid (fun W hW=>⟨(hW.cell (p:=⟨tb,0,none⟩) htl).trans cf,(hW.cell (p:=⟨tb,1,none⟩) htl).trans cw,(hW.cell (p:=⟨ub,0,none⟩) Q5).trans c0,(hW.cell (p:=⟨rf,12,none⟩) ab5).trans c12⟩)
  have Pp:Hid (∀W,Below w2.heap.size w2 W→gu W fb F):=hid (fun W hW=>hfa.keep hW)
  have HWa:Hid (∀W,Below w2.heap.size w2 W→iH W wb es):=hid (fun W hW=>Un.keep hW)
  have HFn:Hid (∀W,Below w2.heap.size w2 W→Below w.heap.size w W):=hid (fun W hW=>HB2.o.trans (hW.mono HB2.o.size))
  have hpl:(D8 es s).length≤65536:=Nat.le_trans (abz es s) jr.o.2.2.len;have WT:=hid hpl
  have hsm:s.size≤maxLen:=by have:=o7.o;unfold maxLen;omega
  have HSm:=hid hsm;clear HW HT1 HQ1 HT2 K_ HB1 HR cf cw hfa Un c0 c12 hrm PG htl Q5 ab5 hpl hsm rs
  go_wp2_with fail
  refine (HAr.o _ HB2.o).mono ?_
  rintro e w3 ⟨hb3,fb2,rfl,hf3,-,-⟩
  go_wp2_with fail
  obtain⟨wA,BR⟩:∃W,w3.alloc (.cells #[.int .i64 0,.int .i64 0,.int .i64 0] 60)=W:=⟨_,rfl⟩
  have Fx:Hid (Below w2.heap.size w2 wA):=hid (by rw [←BR];exact hb3.alloc hb3.size _)
  have Fj:Hid (gu wA fb2 F):=hid (by rw [←BR];exact hf3.keep ((Below.refl _ w3).alloc (Nat.le_refl _) _))
  rw [BR];clear BR hb3 hf3
  refine (HDi.o fb2 wA Fj.o jr.o.1 (HFn.o _ Fx.o)).mono ?_
  rintro e w4 ⟨hb4,wb2,rfl,hw4,-⟩
  have HA4:Hid (Below wA.heap.size wA (w4.alloc (.cells #[.int .i64 0,.int .i64 0,.int .i64 0] 60))):=hid (hb4.alloc hb4.size _);have HW4:Hid (iH (w4.alloc (.cells #[.int .i64 0,.int .i64 0,.int .i64 0] 60)) wb2 es):=hid (hw4.keep ((Below.refl _ w4).alloc (Nat.le_refl _) _));have jK:Hid (Below w2.heap.size w2 (w4.alloc (.cells #[.int .i64 0,.int .i64 0,.int .i64 0] 60))):=hid (Fx.o.trans (HA4.o.mono Fx.o.size));have HF5:Hid (gu (w4.alloc (.cells #[.int .i64 0,.int .i64 0,.int .i64 0] 60)) fb2 F):=hid (Fj.o.keep HA4.o);obtain⟨k1,k2,k3,k4⟩:=oF.o _ jK.o;clear hb4 hw4 HA4 HAr HDi Fx Fj
  go_upto_region 8 with fail
  obtain⟨w5,Ui⟩:∃W,w4.alloc (.cells #[.int .i64 0,.int .i64 0,.int .i64 0] 60)=W:=⟨_,rfl⟩;rw [Ui] at jK HF5 HW4 k1 k2 k3 k4 ⊢;clear Ui
  have YA:Hid (∀W,Below w5.heap.size w5 W→Below w2.heap.size w2 W):=hid (fun W hW=>jK.o.trans (hW.mono jK.o.size))
  have acJ:Hid (∀W,Below w5.heap.size w5 W→Calls Tryz.prog 33 #[.pointer (some ⟨wb,0,none⟩),.string s] W fun e w'=>∃v,e=.returned v∧IS w' v (D8 es s)∧Below W.heap.size W w'):=hid (fun W hW=>aaK wb es s W (HWa.o W (YA.o W hW)) HSm.o WT.o)
  have acK:Hid (∀W,Below w5.heap.size w5 W→Calls Tryz.prog 33 #[.pointer (some ⟨wb2,0,none⟩),.string s] W fun e w'=>∃v,e=.returned v∧IS w' v (D8 es s)∧Below W.heap.size W w'):=hid (fun W hW=>aaK wb2 es s W (HW4.o.keep hW) HSm.o WT.o)
  have acL:Hid (Calls Tryz.prog 31 #[.pointer (some ⟨wb,0,none⟩)] w5 fun e w'=>e=.returned (.int .i64 (es.length:Nat))∧w5=w'):=hid (aa2 wb es w5 (HWa.o w5 jK.o))
  have acO:Hid (Calls Tryz.prog 31 #[.pointer (some ⟨wb2,0,none⟩)] w5 fun e w'=>e=.returned (.int .i64 (es.length:Nat))∧w5=w'):=hid (aa2 wb2 es w5 HW4.o)
  go_wp2_with fail
  refine acL.o.mono ?_
  rintro e w6 ⟨rfl,rfl⟩
  go_wp2_with fail
  refine acO.o.mono ?_
  rintro e w6 ⟨rfl,rfl⟩
  go_wp2_with fail
  refine (acJ.o _ (Below.refl _ _)).mono ?_
  rintro e w6 ⟨v6,rfl,hi6,hb6⟩
  go_wp2_with fail
  refine (acK.o _ hb6).mono ?_
  rintro e w7 ⟨v7,rfl,hi7,uJ⟩
  go_wp2_with fail
  refine (Ny v6 v7 (D8 es s) w7 (hi6.keep uJ) hi7 (by have:=WT.o;omega)).mono ?_
  rintro e w8 ⟨rfl,n8,hw8⟩
  have oH:Hid (Below w5.heap.size w5 w8):=hid (by rw [hw8];exact below_drewN (hb6.trans (uJ.mono hb6.size)) n8)
  clear hi6 hi7 hb6 uJ hw8 k1 k2 k3 k4;obtain⟨k1,k2,k3,k4⟩:=oF.o _ (YA.o _ oH.o);clear acJ acK acL acO
  go_wp2_with fail
  refine (aaA fb F s m0 w8 (Pp.o _ (YA.o _ oH.o)) jr.o.1 o7.o (HM.o _ (HFn.o _ (YA.o _ oH.o))).2).mono ?_
  rintro e w9 ⟨v9,rfl,hn9,ze⟩
  have HB9:Hid (Below w5.heap.size w5 w9):=hid (oH.o.trans (ze.mono oH.o.size));obtain⟨p9,c9,rfl⟩:=hn9.sl
  go_wp2_with fail
  refine (aaA fb2 F s m0 w9 (HF5.o.keep HB9.o) jr.o.1 o7.o (HM.o _ (HFn.o _ (YA.o _ HB9.o))).2).mono ?_
  rintro e Gi ⟨v10,rfl,aco,P8⟩
  have abW:Hid (Below w5.heap.size w5 Gi):=hid (HB9.o.trans (P8.mono HB9.o.size));obtain⟨p10,c10,rfl⟩:=aco.sl;have hzl:=(Gu jr.o.1 jr.o.2.1 s).len;have H9:=hid (hn9.fs.keep P8);have H10:=hid aco.fs;obtain⟨zf,hzf⟩:∃z,(aQ F s).1=z:=⟨_,rfl⟩;obtain⟨ce,hce⟩:∃z,(aQ F s).2=z:=⟨_,rfl⟩;rw [hzf] at H9 H10 hzl;rw [hzf,hce];clear hn9 ze aco P8 k1 k2 k3 k4 hzf hce
  have HEq:Hid (∀W,Below Gi.heap.size Gi W→Calls Tryz.prog 35 #[.slice p9 zf.length c9,.slice p10 zf.length c10] W fun e w'=>e=.returned (.bool true)∧Below W.heap.size W w'):=hid (fun W hW=>by
   have:=aas (.slice p9 zf.length c9) (.slice p10 zf.length c10) zf zf W (H9.o.keep hW) (H10.o.keep hW) (by omega) (by omega)
   rw [decide_eq_true (show canon zf=canon zf from rfl)] at this
   exact this)
  have HKc:Hid (∀W,Below Gi.heap.size Gi W→Below w2.heap.size w2 W):=hid (fun W hW=>YA.o _ (abW.o.trans (hW.mono abW.o.size)))
  have HAf:Hid (∀W,Below Gi.heap.size Gi W→Calls Tryz.prog 30 #[.pointer (some ⟨fb,0,none⟩)] W fun e w'=>∃a,e=.returned (J2 F a)∧tq W.heap.size w' F a∧Below W.heap.size W w'):=hid (fun W hW=>xV fb F W (Pp.o _ (HKc.o W hW)) jr.o.1)
  go_upto_region 12 with fail
  go_cut [124] from 98 to 124 (fun p W=>p=.bool false∧Hid (Below Gi.heap.size Gi W))
  case first =>
   refine wp_region_held_drew (S:=fun W=>W.cell? ⟨tb,0,none⟩=some (.pointer (some ⟨fb,0,none⟩))∧W.cell? ⟨tb,1,none⟩=some (.pointer (some ⟨wb,0,none⟩))∧W.cell? ⟨ub,0,none⟩=some (.pointer (some ⟨rf,0,none⟩))∧W.cell? ⟨rf,12,none⟩=some (.slice A F.rls.length cp)) (by kernel_rfl) ?_ (fun hHeld=>?_)
   ·exact oF.o _ (HKc.o _ ah)
   refine aA 0 (some 98) hHeld ?_;try simp only [aj]
   refine aA 1 (some 99) hHeld ?_;try simp only [aj]
   refine aA 2 (some 100) hHeld ?_;try simp only [aj]
   refine aA 3 (some 101) hHeld ?_;try simp only [aj]
   refine aA 4 (some 102) hHeld ?_;try simp only [aj]
   refine aA 5 (some 103) hHeld ?_;try simp only [aj]
   refine aP 6 (fun K hK=>?_)
   go_simp
   refine (HEq.o _ ah).mono ?_
   rintro e Fv ⟨rfl,acP⟩
   have abX:Hid (Below Gi.heap.size Gi Fv):=hid ((ah (w:=Gi)).trans acP);clear acP
   refine hK.out _ _ ?_ (fun hHeld=>?_)
   ·exact oF.o _ (HKc.o _ abX.o)
   clear hK K
   refine aA 7 (some 105) hHeld ?_;try simp only [aj]
   refine aA 8 (some 106) hHeld ?_;try simp only [aj]
   refine aA 9 (some 107) hHeld ?_;try simp only [aj]
   refine aA 10 (some 108) hHeld ?_;try simp only [aj]
   refine aA 11 (some 109) hHeld ?_;try simp only [aj]
   refine aA 12 (some 110) hHeld ?_;try simp only [aj]
   refine aA 13 (some 111) hHeld ?_;try simp only [aj]
   refine aA 17 (some 115) hHeld ?_;try simp only [aj]
   refine aA 18 (some 116) hHeld ?_;try simp only [aj]
   refine aA 19 (some 117) hHeld ?_;try simp only [aj]
   refine aA 20 (some 118) hHeld ?_;try simp only [aj]
   refine aA 21 (some 119) hHeld ?_;try simp only [aj]
   refine aA 22 (some 120) hHeld ?_;try simp only [aj]
   refine aA 23 (some 121) hHeld ?_;try simp only [aj]
   refine aA 24 (some 122) hHeld ?_;try simp only [aj]
   refine aP 14 (fun K hK=>?_)
   go_simp
   refine (HAf.o _ abX.o).mono ?_
   rintro e zo ⟨⟨vr,va,vc,vl⟩,rfl,hn,hb⟩
   have acQ:Hid (Below Gi.heap.size Gi zo):=hid (abX.o.trans (hb.mono abX.o.size))
   obtain⟨Al,kl,rfl⟩:∃A k,vl=.slice A F.rls.length k:=by obtain⟨rs,hrm,hro,-⟩:=hn.rls;obtain⟨A,k,h⟩:=aF hro;have h':vl=.slice A rs.length k:=h;exact⟨A,k,by rw [h',←hrm];simp⟩
   have hfd:=fun W=>aaM F vr va vc (.slice Al F.rls.length kl) W
   unfold J2 zA;dsimp only;clear hn hb
   refine hK.out _ _ ?_ (fun hHeld=>?_)
   ·exact oF.o _ (HKc.o _ acQ.o)
   clear hK K
   refine aA 15 (some 113) hHeld ?_;try simp only [aj]
   refine aA 16 (some 114) hHeld ?_;try simp only [aj]
   refine aA 25 (some 123) hHeld ?_;try simp only [aj]
   refine aA 26 (some 124) hHeld ?_;try simp only [aj]
   refine wpAnyH_done (by kernel_rfl) ?_ _
   go_wp2_with fail
   all_goals go_meet
   all_goals exact⟨rfl,acQ⟩
  case rest =>
  obtain⟨rfl,ab2⟩:=hcut
  rename World=>V5
  have Sn:Hid (∀W,Below V5.heap.size V5 W→Below w5.heap.size w5 W):=hid (fun W hW=>abW.o.trans ((ab2.o.trans (hW.mono ab2.o.size)).mono abW.o.size))
  obtain⟨k1,k2,k3,k4⟩:=oF.o _ (HKc.o _ ab2.o)
  go_wp2_with fail
  refine (Gx wb es V5 (HWa.o _ (HKc.o _ ab2.o)) jr.o.2.2).mono ?_
  rintro e Zk ⟨v14,rfl,⟨xs,hxe,hxo,hxf⟩,acR⟩
  have acS:Hid (Below w5.heap.size w5 Zk):=hid (Sn.o _ acR);obtain⟨Ae,ke,rfl⟩:=aF hxo;have HXd:=hid (Rd.aN hxo)
  have Qf:Hid (∀x∈xs,FS Zk x.2.1 x.2.2):=hid (fun x hx=>(hxf x hx).fs)
  have adg:xs.length=es.length:=by rw [←hxe,dz]
  have hxl:xs.length≤65536:=by have:=jr.o.2.2.len;omega
  have HXm:=hid hxe;obtain⟨M,hM⟩:∃M,xs.length=M:=⟨_,rfl⟩;rw [hM] at hxl;rw [hM];have HMm:=hid hM
  have HKe:Hid (∀W,Below Zk.heap.size Zk W→Below w5.heap.size w5 W):=hid (fun W hW=>acS.o.trans (hW.mono acS.o.size))
  clear hxo hxf hxe acR hM k1 k2 k3 k4 adg HEq HAf H9 H10
  go_wp2_with fail
  go_loopw [19,20,21,22,23,24,25,26,27,131] (fun _ _ _ _ _ _ _ _ _ x wr=>∃k:Nat,k≤M∧x=.int .i64 k∧Hid (Below Zk.heap.size Zk wr)) (fun _ _ _ _ _ _ _ _ _ x _=>M - (intOf x).toNat)
  case atStart=>exact⟨0,Nat.zero_le _,rfl,hid (Below.refl _ _)⟩
  case round =>
  obtain⟨i,hi,rfl,HBi⟩:=hrel
  by_cases hil:i < M
  ·have hir:i < xs.length:=by have:=HMm.o;omega
   obtain⟨hie,hek⟩:=rU HXm.o hir;obtain⟨-,A',cp',hv,hcap,hcells⟩:=HXd.o
   cases hv
   obtain⟨g,o,rfl,hc⟩:=hcells.resolve_left (by omega)
   obtain⟨q0,q1⟩:=Cj xs i hir;have e0':=hc _ _ q0;have e1':=hc _ _ q1;rw [←Nat.add_assoc] at e1';have e0:=(HBi.o.cell (block_lt_of_cell? _ _ e0')).trans e0';have e1:=(HBi.o.cell (block_lt_of_cell? _ _ e1')).trans e1';have hset:=(jr.o.2.2.each _ (List.getElem_mem hie)).1;have hwr:=HWr.o _ (List.getElem_mem hie);have his:=(Qf.o _ (List.getElem_mem hir)).keep HBi.o;rw [hek] at hset hwr;obtain⟨x,hx⟩:∃x,xs[i]=x:=⟨_,rfl⟩;obtain⟨sx,u,zs⟩:=x;rw [hx] at e0 e1 his hset hwr;dsimp only at e0 e1 his hset hwr;have HIs:=hid his;obtain⟨pu,cu,rfl,hcu,hpu⟩:=his;have adM:=hset.len
   have hin:(i:Int) < (M:Int):=by omega
   clear hc hcells q0 q1 e0' e1' hx hir hie hek
   by_cases hz:zs.length=0
   ·rw [hz] at e1
    clear hset hwr HIs hpu
    go_wp2_with fail
    go_roundw
    case rel=>exact⟨i+1,by omega,by go_num,hid (HBi.o.alloc HBi.o.size _)⟩
    case measure=>simp [intOf];omega
   obtain⟨pb,po,rfl,hpc⟩:=hpu.resolve_left hz
   have hz0:decide ((zs.length:Int)=0)=false:=decide_eq_false (by omega)
   have hw0:(aae F.kind F.aI zs).2=0:=hwr.resolve_left (fun h=>hz (by rw [h];rfl))
   have hbd:=hset.2.1;obtain⟨z0,acr⟩:∃z,zs.getD 0 0=z:=⟨_,rfl⟩
   have hp0:=hpc 0 (by omega)
   rw [acr,Nat.add_zero] at hp0
   have acT:0≤z0∧z0≤65535:=by
    have hm:z0∈zs:=by rw [←acr,List.getD_eq_getElem?_getD,List.getElem?_eq_getElem (by omega),Option.getD_some];exact List.getElem_mem _
    exact hbd _ hm
   obtain⟨wt,hwt⟩:∃r,(aae F.kind F.aI zs).1=r:=⟨_,rfl⟩
   have hwp:aae F.kind F.aI zs=(wt,0):=by rw [←hwt,←hw0]
   have HWp:=hid hwp;have zy:=hid hbd
   have hlz:0 < zs.length:=by omega
   clear hset hwr hpc hwt hw0 hwp hbd acr
   go_upto_region 18 with fail
   have ab3:=hid (heap_alloc_new wr (.cells #[.string sx,.slice (some ⟨pb,po,none⟩) zs.length cu] 35));have aaZ:=hid (HBi.o.alloc HBi.o.size (.cells #[.string sx,.slice (some ⟨pb,po,none⟩) zs.length cu] 35));have acs:=hid (HIs.o.keep ((Below.refl _ wr).alloc (Nat.le_refl _) (.cells #[.string sx,.slice (some ⟨pb,po,none⟩) zs.length cu] 35)));have ab4:=(((Below.refl _ wr).alloc (Nat.le_refl _) (.cells #[.string sx,.slice (some ⟨pb,po,none⟩) zs.length cu] 35)).cell (block_lt_of_cell? _ _ hp0)).trans hp0;obtain⟨w15,acz⟩:∃W,wr.alloc (.cells #[.string sx,.slice (some ⟨pb,po,none⟩) zs.length cu] 35)=W:=⟨_,rfl⟩;obtain⟨xb,hxb⟩:∃n,wr.heap.size=n:=⟨_,rfl⟩;rw [acz,hxb] at ab3;rw [acz] at aaZ acs ab4 ⊢;rw [hxb]
   have wJ:Hid (∀W,Below w15.heap.size w15 W→W.cell? ⟨tb,0,none⟩=some (.pointer (some ⟨fb,0,none⟩))∧W.cell? ⟨xb,1,none⟩=some (.slice (some ⟨pb,po,none⟩) zs.length cu)∧W.cell? ⟨pb,po,none⟩=some (.int .u16 z0)):=hid (fun W hW=>⟨(oF.o _ (YA.o _ (HKe.o _ (aaZ.o.trans (hW.mono aaZ.o.size))))).1,by rw [cell_of_heap ((hW.block _ (block_lt ab3.o)).trans ab3.o)];rfl,(hW.cell (block_lt_of_cell? _ _ ab4)).trans ab4⟩)
   have HKg:Hid (∀W,Below w15.heap.size w15 W→Below w5.heap.size w5 W):=hid (fun W hW=>HKe.o _ (aaZ.o.trans (hW.mono aaZ.o.size)))
   have HWt:Hid (∀fx W,gu W fx F→Below w15.heap.size w15 W→Calls Tryz.prog 37 #[.pointer (some ⟨fx,0,none⟩),.slice (some ⟨pb,po,none⟩) zs.length cu] W fun e w'=>e=.returned (.tuple #[.string wt,.int .i64 0])∧Below W.heap.size W w'):=hid (fun fx W hf hW=>by
    have:=abf fx F (.slice (some ⟨pb,po,none⟩) zs.length cu) zs W hf jr.o.1 (acs.o.keep hW) zy.o (by omega) (HP.o _ (HFn.o _ (YA.o _ (HKg.o W hW))))
    unfold WrP at this;rw [HWp.o] at this
    exact this)
   obtain⟨cc,hcc⟩:∃c,(F.cls.find? (fun c=>c.flag==z0)).getD xq=c:=⟨_,rfl⟩
   obtain⟨bb,hbb⟩:∃b,(F.cls.find? (fun c=>c.flag==z0)).isSome=b:=⟨_,rfl⟩
   obtain⟨a1,a2,a3,a4,a5⟩:=cc
   have HCs:Hid (∀fx W,gu W fx F→Calls Tryz.prog 38 #[.pointer (some ⟨fx,0,none⟩),.int .u16 z0] W fun e w'=>e=.returned (.tuple #[.agg #[.int .u16 a1,.int .i64 a2,.bool a3,.int .i64 a4,.int .i64 a5],.bool bb])∧Below W.heap.size W w'):=hid (fun fx W hf=>by
    have:=xX fx F.cls z0 W hf.VN acT jr.o.1.cls
    unfold MV MX at this;rw [hcc,hbb] at this
    exact this)
   have Aj:Hid (∀W,Below w15.heap.size w15 W→gu W fb F):=hid (fun W hW=>Pp.o _ (YA.o _ (HKg.o W hW)))
   have Fj:Hid (∀W,Below w15.heap.size w15 W→gu W fb2 F):=hid (fun W hW=>HF5.o.keep (HKg.o W hW))
   clear acz hxb ab4 hp0 e0 e1 ab3 acs HIs hcc hbb HWp zy acT
   have hzb:((zs.length:Int)==0)=false:=by rw [beq_eq_false_iff_ne];omega
   simp only [hzb];clear hz0 hzb
   go_cut [20,21] from 139 to 148 (fun p q W=>p=.string wt∧q=.int .i64 0∧Hid (Below w15.heap.size w15 W))
   case first =>
    refine wp_region_held_drew (S:=fun W=>W.cell? ⟨tb,0,none⟩=some (.pointer (some ⟨fb,0,none⟩))∧W.cell? ⟨xb,1,none⟩=some (.slice (some ⟨pb,po,none⟩) zs.length cu)∧W.cell? ⟨pb,po,none⟩=some (.int .u16 z0)) (by kernel_rfl) ?_ (fun hHeld=>?_)
    ·exact wJ.o _ ah
    refine aA 0 (some 140) hHeld ?_;try simp only [aj]
    refine aA 1 (some 141) hHeld ?_;try simp only [aj]
    refine aA 2 (some 142) hHeld ?_;try simp only [aj]
    refine aA 3 (some 143) hHeld ?_;try simp only [aj]
    refine aA 4 (some 144) hHeld ?_;try simp only [aj]
    refine aA 5 (some 145) hHeld ?_;try simp only [aj]
    refine aP 6 (fun K hK=>?_)
    go_simp
    refine (HWt.o fb _ (Aj.o _ ah) ah).mono ?_
    rintro e w16 ⟨rfl,acU⟩
    have acV:Hid (Below w15.heap.size w15 w16):=hid ((ah (w:=w15)).trans acU);clear acU
    refine hK.out _ _ ?_ (fun hHeld=>?_)
    ·exact wJ.o _ acV.o
    clear hK K
    refine aA 7 (some 139) hHeld ?_;try simp only [aj]
    refine aA 8 (some 147) hHeld ?_;try simp only [aj]
    refine aA 9 (some 148) hHeld ?_;try simp only [aj]
    refine aA 10 (some 20) hHeld ?_;try simp only [aj]
    refine aA 11 (some 21) hHeld ?_;try simp only [aj]
    refine wpAnyH_done (by kernel_rfl) ?_ _
    go_wp2_with fail
    all_goals go_meet
    all_goals exact⟨rfl,rfl,acV⟩
   case rest =>
   obtain⟨rfl,rfl,Yu⟩:=hcut
   rename World=>w17
   obtain⟨k1,k2,k3⟩:=wJ.o _ Yu.o
   go_wp2_with fail
   refine (HWt.o fb2 _ (Fj.o _ Yu.o) Yu.o).mono ?_
   rintro e w19 ⟨rfl,acW⟩
   have aaO:Hid (Below w15.heap.size w15 w19):=hid (Yu.o.trans (acW.mono Yu.o.size));clear acW k1 k2 k3
   have HSu:Hid (∀W,Below w19.heap.size w19 W→W.cell? ⟨tb,0,none⟩=some (.pointer (some ⟨fb,0,none⟩))∧W.cell? ⟨xb,1,none⟩=some (.slice (some ⟨pb,po,none⟩) zs.length cu)∧W.cell? ⟨pb,po,none⟩=some (.int .u16 z0)):=hid (fun W hW=>wJ.o _ (aaO.o.trans (hW.mono aaO.o.size)))
   have XI:Hid (∀W,Below w19.heap.size w19 W→gu W fb F):=hid (fun W hW=>Aj.o _ (aaO.o.trans (hW.mono aaO.o.size)))
   have uI:Hid (Below w19.heap.size w19 (w19.drew.alloc (.cells #[.int .u16 0,.int .i64 0,.bool false,.int .i64 0,.int .i64 0] 99))):=hid ((ah (w:=w19)).alloc (by simp) _)
   have HZz:Hid ((w19.drew.alloc (.cells #[.int .u16 0,.int .i64 0,.bool false,.int .i64 0,.int .i64 0] 99)).heap[w19.heap.size]?=some (.cells #[.int .u16 0,.int .i64 0,.bool false,.int .i64 0,.int .i64 0] 99 (0,0))):=hid (heap_alloc_new w19.drew _)
   go_upto_region 20 with fail
   go_cut [24,25] from 156 to 167 (fun p q W=>∃g,p=.pointer (some ⟨g,0,none⟩)∧q=.bool bb∧Hid (Below w19.heap.size w19 W)∧Hid (W.heap[g]?=some (.cells #[.int .u16 a1,.int .i64 a2,.bool a3,.int .i64 a4,.int .i64 a5] 99 (0,0))))
   case first =>
    refine wp_region_held_drew (S:=fun W=>W.cell? ⟨tb,0,none⟩=some (.pointer (some ⟨fb,0,none⟩))∧W.cell? ⟨xb,1,none⟩=some (.slice (some ⟨pb,po,none⟩) zs.length cu)∧W.cell? ⟨pb,po,none⟩=some (.int .u16 z0)) (by kernel_rfl) ?_ (fun hHeld=>?_)
    ·exact HSu.o _ ah
    refine aA 0 (some 157) hHeld ?_;try simp only [aj]
    refine aA 1 (some 158) hHeld ?_;try simp only [aj]
    refine aA 2 (some 159) hHeld ?_;try simp only [aj]
    refine aA 3 (some 160) hHeld ?_;try simp only [aj]
    refine aA 4 (some 161) hHeld ?_;try simp only [aj]
    refine aA 5 (some 162) hHeld ?_;try simp only [aj]
    refine aA 6 (some 163) hHeld ?_;try simp only [aj]
    refine aA 7 (some 164) hHeld ?_;try simp only [aj]
    refine wpAnyH_ready (rs:=[8,12]) (by kernel_rfl) (by simp) ?_
    refine AllReadyH.cons rfl (fun K hK=>?_) ?_
    ·go_simp
     refine (HCs.o fb _ (XI.o _ ah)).mono ?_;rintro e w20 ⟨rfl,abh⟩;have aaz:Hid (Below w19.heap.size w19 w20):=hid ((ah (w:=w19)).trans (abh.mono (ah (w:=w19)).size));clear abh
     refine hK.out _ _ ?_ (fun hHeld=>?_)
     ·exact HSu.o _ aaz.o
     refine aA 9 (some 156) hHeld ?_;try simp only [aj]
     refine aA 10 (some 166) hHeld ?_;try simp only [aj]
     refine aA 11 (some 167) hHeld ?_;try simp only [aj]
     refine aP 12 (fun K hK=>?_)
     go_simp
     refine hK.out _ _ ?_ (fun hHeld=>?_)
     ·exact HSu.o _ (aaz.o.alloc aaz.o.size _)
     clear hK K
     refine aP 13 (fun K hK=>?_)
     go_simp
     refine hK.out _ _ ?_ (fun hHeld=>?_)
     ·exact HSu.o _ (aaz.o.alloc aaz.o.size _)
     clear hK K
     refine aA 14 (some 25) hHeld ?_;try simp only [aj]
     refine wpAnyH_done (by kernel_rfl) ?_ _
     go_wp2_with fail
     all_goals go_meet
     all_goals exact⟨_,rfl,rfl,hid (aaz.o.alloc aaz.o.size _),hid (heap_alloc_new w20 _)⟩
    refine AllReadyH.cons rfl (fun K hK=>?_) ?_
    ·go_simp
     refine hK.out _ _ ?_ (fun hHeld=>?_)
     ·exact HSu.o _ uI.o
     clear hK K
     refine aP 8 (fun K hK=>?_)
     go_simp
     refine (HCs.o fb _ (XI.o _ uI.o)).mono ?_;rintro e w20 ⟨rfl,abh⟩;have aaz:Hid (Below w19.heap.size w19 w20):=hid (uI.o.trans (abh.mono uI.o.size));have hn:=(abh.block _ (block_lt HZz.o)).trans HZz.o;have n0:=cell_of_heap hn 0;have n1:=cell_of_heap hn 1;have n2:=cell_of_heap hn 2;have n3:=cell_of_heap hn 3;have n4:=cell_of_heap hn 4;have f0:=frozen_of_heap hn 0;have f1:=frozen_of_heap hn 1;have f2:=frozen_of_heap hn 2;have f3:=frozen_of_heap hn 3;have f4:=frozen_of_heap hn 4;simp only [List.getElem?_toArray,List.getElem?_cons_zero,List.getElem?_cons_succ] at n0 n1 n2 n3 n4;have HN:=hid (abV w20 w19.heap.size a1 a2 a3 a4 a5 hn);have Xl:Hid (Below w19.heap.size w19 (((((w20.setCell ⟨w19.heap.size,0,none⟩ (.int .u16 a1)).setCell ⟨w19.heap.size,1,none⟩ (.int .i64 a2)).setCell ⟨w19.heap.size,2,none⟩ (.bool a3)).setCell ⟨w19.heap.size,3,none⟩ (.int .i64 a4)).setCell ⟨w19.heap.size,4,none⟩ (.int .i64 a5))):=hid (((((aaz.o.setCell (p:=⟨w19.heap.size,0,none⟩) (Nat.le_refl _) _).setCell (p:=⟨w19.heap.size,1,none⟩) (Nat.le_refl _) _).setCell (p:=⟨w19.heap.size,2,none⟩) (Nat.le_refl _) _).setCell (p:=⟨w19.heap.size,3,none⟩) (Nat.le_refl _) _).setCell (p:=⟨w19.heap.size,4,none⟩) (Nat.le_refl _) _);clear abh hn
     refine hK.out _ _ ?_ (fun hHeld=>?_)
     ·exact HSu.o _ aaz.o
     clear hK K
     refine aA 9 (some 156) hHeld ?_;try simp only [aj]
     refine aA 10 (some 166) hHeld ?_;try simp only [aj]
     refine aA 11 (some 167) hHeld ?_;try simp only [aj]
     refine aP 13 (fun K hK=>?_)
     go_simp
     refine hK.out _ _ ?_ (fun hHeld=>?_)
     ·exact HSu.o _ Xl.o
     clear hK K
     refine aA 14 (some 25) hHeld ?_;try simp only [aj]
     refine wpAnyH_done (by kernel_rfl) ?_ _
     go_wp2_with fail
     all_goals go_meet
     all_goals exact⟨_,rfl,rfl,Xl,HN⟩
    exact AllReadyH.nil
   case rest =>
   obtain⟨g24,rfl,rfl,ab6,acX⟩:=hcut
   rename World=>w21
   obtain⟨k1,k2,k3⟩:=HSu.o _ ab6.o
   go_wp2_with fail
   refine (HCs.o fb2 _ (Fj.o _ (aaO.o.trans (ab6.o.mono aaO.o.size)))).mono ?_
   rintro e w22 ⟨rfl,acA⟩
   have ac2:Hid (Below w19.heap.size w19 w22):=hid (ab6.o.trans (acA.mono ab6.o.size));have ac3:=hid ((acA.block _ (block_lt acX.o)).trans acX.o);have abj:=hid (heap_alloc_new w22 (.cells #[.int .u16 a1,.int .i64 a2,.bool a3,.int .i64 a4,.int .i64 a5] 99));have ac4:=hid (ac2.o.alloc ac2.o.size (.cells #[.int .u16 a1,.int .i64 a2,.bool a3,.int .i64 a4,.int .i64 a5] 99));have abk:=hid ((((Below.refl _ w22).alloc (Nat.le_refl _) (.cells #[.int .u16 a1,.int .i64 a2,.bool a3,.int .i64 a4,.int .i64 a5] 99)).block _ (block_lt ac3.o)).trans ac3.o);clear acA k1 k2 k3
   go_upto_region 22 with fail
   obtain⟨w23,acB⟩:∃W,w22.alloc (.cells #[.int .u16 a1,.int .i64 a2,.bool a3,.int .i64 a4,.int .i64 a5] 99)=W:=⟨_,rfl⟩;obtain⟨g26,acC⟩:∃n,w22.heap.size=n:=⟨_,rfl⟩;rw [acB,acC] at abj;rw [acB] at ac4 abk ⊢;rw [acC];have x0:=cell_of_heap abk.o 0;have x1:=cell_of_heap abk.o 1;have x2:=cell_of_heap abk.o 2;have x3:=cell_of_heap abk.o 3;have x4:=cell_of_heap abk.o 4;have y0:=cell_of_heap abj.o 0;have y1:=cell_of_heap abj.o 1;have y2:=cell_of_heap abj.o 2;have y3:=cell_of_heap abj.o 3;have y4:=cell_of_heap abj.o 4
   simp only [List.getElem?_toArray,List.getElem?_cons_zero,List.getElem?_cons_succ] at x0 x1 x2 x3 x4 y0 y1 y2 y3 y4
   clear acB acC
   go_wp2_with fail
   go_roundw
   case rel=>exact⟨i+1,by omega,by go_num,hid (aaZ.o.trans ((aaO.o.trans (ac4.o.mono aaO.o.size)).mono aaZ.o.size))⟩
   case measure=>simp [intOf];omega
  obtain rfl:i=M:=by omega
  go_wp2_with fail
  go_ret
  exact⟨by simp,HFn.o _ (YA.o _ (HKe.o _ HBi.o))⟩
theorem aa0 {W:World} {name:String} {k:IntKind} {zs:List Int} {rest:List (String×DataW Unit)} {g:Nat} {t e:TypeId} {n:Nat} {ps:List MemPlace}
  (hg:Tryz.prog.globalNamed name=some g) (hty:(Tryz.prog.globals[g]?).map (·.type)=some t) (ht:Tryz.prog.underlying t=some (.array n e)) (he:Tryz.prog.underlying e=some (.int k)) (hce:Tryz.prog.cellsOf e=1) (hct:Tryz.prog.cellsOf t=n)
  (h:DataW.LaidVars Tryz.prog W ((name,Lib.tabData k zs)::rest) ps):Lib.TabIs Tryz.prog W name k zs:=by
 obtain⟨g',t',cs,fuel,p,q,hg',ht',hvar,hd,_,_⟩:=h
 obtain rfl:=Option.some.inj (hg.symm.trans hg');obtain rfl:=Option.some.inj (hty.symm.trans ht');unfold Lib.TabIs;rw [hvar,←Lib.cells_of_tab ht he hce hct hd]
theorem aat {W:World} {x:String×DataW Unit} {rest:List (String×DataW Unit)} {ps:List MemPlace} (h:DataW.LaidVars Tryz.prog W (x::rest) ps):∃qs,DataW.LaidVars Tryz.prog W rest qs:=by
 obtain⟨g',t',cs,fuel,p,q,_,_,_,_,h2,_⟩:=h
 exact⟨q,h2⟩
theorem aau {W:World} (h:laidMetH Tryz.prog Rows.tablesPromotedUptoRow.laid W):aad W:=by
 have h1:laidMet Tryz.prog Rows.tablesPromotedUptoRow.laid W:=h
 obtain⟨ps,h2,_⟩:=h1;obtain⟨qs,h3⟩:=aat h2;obtain⟨rs,h4⟩:=aat h3
 exact aa0 (g:=1) (by kernel_rfl) (by kernel_rfl) Tryz.underlying315 Tryz.underlying260 (by kernel_rfl) (by kernel_rfl) h4
theorem aan (a d s:ByteArray) (W:World) (h:W.ShapedOpen Tryz.prog) (hs:s.size≤1048576) (ht:aad W) :
  Calls Tryz.prog 9 #[.string a,.string d,.string s] W fun e w'=>e=.returned (.bool true)∧Below W.heap.size W w':=by
 obtain⟨m,hm⟩:=UH W h
 exact aam a d s m W (Nat.lt_of_le_of_lt (Nat.zero_le _) (block_lt_of_cell? _ _ hm)) hm hs ht
end Go.Proofs.YtfkblpjfknfgbaaGreatDoor
