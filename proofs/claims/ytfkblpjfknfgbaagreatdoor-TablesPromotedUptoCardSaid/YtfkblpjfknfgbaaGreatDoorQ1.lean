import Derived.Test.YtfkblpjfknfgbaaGreatDoorRows
import Derived.WalkKit
import Derived.ProofKit
import Derived.OpenShut
import Derived.SizedLaws
import Derived.HandedShaped
import Derived.JoinedCond
import Derived.WalkSpells
import Derived.WalkLawsBesides
import Derived.Lib.Hide
import Derived.Lib.Strings
import Derived.Lib.UnsafeStr
import Derived.Laws.BytesArg
import Derived.Deep.QuietTactic
import Derived.BigQuiet
import Derived.Lib.Split
import Derived.Laws.BitsLemmas
import Derived.Lib.EndianBits
import Derived.Deep.RegionWith
import Derived.Test.YtfkblpjfknfgbaaGreatDoorQ0
import Derived.Lib.Walk
import Derived.Sort.Row
import Derived.Sort.LotA
import Derived.BigGuard
import Derived.BigCall
import Derived.CellFam
import Derived.Deep.Draws
import Derived.Sort.Grow
import Derived.Sort.LotD1
import Derived.Sort.LotD5
import Derived.Laws.Bits64
import Derived.Laws.Bits64b
set_option linter.unusedVariables false
set_option linter.unusedSimpArgs false
namespace Go.RowKit
theorem Hid.o {p:Prop} (h:Hid p):p:=h
end Go.RowKit
namespace Go.Proofs.YtfkblpjfknfgbaaGreatDoor
set_option maxHeartbeats 8000000
set_option maxRecDepth 100000
open Go.ChangeAt Go.ChangeShapes Go.RowKit Go.Sort Go.WideShapes
open Lib (hid byteCells)
open World (block_lt_of_cell?)
open Go.ChangeMaps (open_string shut_string)
theorem abt:ownKnob Tryz.prog.godebug=none:=by kernel_rfl
theorem Lj:laidOutB Tryz.prog=true:=by kernel_rfl
theorem int_bounds {n:Int} (h:(Lit.int .i64 n).wf=true):-9223372036854775808≤n∧n≤9223372036854775807:=by
 simp [Lit.wf,IntKind.min,IntKind.max,IntKind.signed,IntKind.bits] at h;omega
theorem zf {H:Type} {enc:TypeId×Value→H} {W W':World} (hb:Below W.heap.size W W'):∀(ts:List TypeId) (vs:List Value) (ds:List (DataW H)) (ps:List MemPlace),
  (∀t∈ts,Tryz.prog.readableRec t=true∧t < Tryz.prog.types.size)→DataW.TrodAll enc Tryz.prog W 0 (fun _=>true) true ts vs ds ps→(∀x∈ps,x.block < W.heap.size) →
  DataW.TrodAll enc Tryz.prog W' 0 (fun b=>decide (b < W.heap.size)) true ts vs ds ps:=by
 intro ts
 induction ts with
 | nil =>
  intro vs ds ps _ h _
  obtain⟨rfl,rfl,rfl⟩:=trodAll_nil h
  exact rfl
 | cons t ts ih =>
  intro vs ds ps ht h hlt
  obtain⟨v,vs',d,ds',p,q,rfl,rfl,rfl,h1,h2⟩:=trodAll_cons h
  have hr:=ht t (by simp)
  exact⟨p,q,Below.trod Lj hr.1 hr.2 h1 hb (fun x hx=>hlt x (by simp [hx])),ih vs' ds' q (fun u hu=>ht u (by simp [hu])) h2 (fun x hx=>hlt x (by simp [hx])),rfl⟩
theorem Uc {H:Type} {enc:TypeId×Value→H} {k:FuncId} {fn:Func} {s:ChangeSpec} (hfp:(fn.params.toList.all fun t=>Tryz.prog.readableRec t&&decide (t < Tryz.prog.types.size))=true)
  (hres:fn.resultTypes=#[4]) (hvars:s.vars=[]) (n:Nat) (hn:fn.params.toList.length=n) (hspec:∀ds:List (DataW H),ds.length=n→s.fn H (ds++[])={ results:=[.lit (.bool true)],args:=ds })
  {W:World} {args:Array Value} {ds gs:List (DataW H)} {before:List MemPlace} (hW:DataW.Whole enc Tryz.prog fn.params.toList s.vars false W args.toList ds gs before)
  (UQ:Calls Tryz.prog k args W fun e w'=>e=.returned (.bool true)∧Below W.heap.size W w') :
  Calls Tryz.prog k args W fun e W'=>∃v,e=.returned v∧s.post enc Tryz.prog fn false true false false W args v W':=by
 refine UQ.mono fun e W' ⟨he,hb⟩=>⟨_,he,?_⟩
 have hlt:=hW.lt;have hW0:=hW;obtain⟨p,q,hA,hV,rfl,hfz,hnd⟩:=hW;rw [hvars] at hV;obtain⟨rfl,rfl⟩:=trodVars_none hV
 have hlen:ds.length=n:=by
  have:∀(ts:List TypeId) (vs:List Value) (ds:List (DataW H)) (ps:List MemPlace),DataW.TrodAll enc Tryz.prog W 0 (fun _=>true) true ts vs ds ps→ds.length=ts.length:=by
   intro ts
   induction ts with
   | nil=>intro vs ds ps h;obtain⟨rfl,rfl,rfl⟩:=trodAll_nil h;rfl
   | cons t ts ih=>intro vs ds ps h;obtain⟨v,vs',d,ds',p,q,rfl,rfl,rfl,h1,h2⟩:=trodAll_cons h;simp [ih _ _ _ h2]
  rw [this _ _ _ _ hA,hn]
 refine⟨ds,[],p++[],[],p,[],hW0,?_,?_,?_,hb.frame _,fun h=>by cases h⟩
 ·rw [hspec ds hlen,hres]
  exact trodAll_mk1 (shut_bool Tryz.underlying4 true)
 ·rw [hspec ds hlen]
  refine zf hb _ _ _ _ (fun t ht=>?_) hA (fun x hx=>hlt x (by simp [hx]))
  have:=List.all_eq_true.1 hfp t ht
  simpa using this
 rw [hvars,hspec ds hlen]
 exact rfl
theorem bE {a b:Bool} (h:a=b):Ending.returned (.bool a)=.returned (.bool b):=by rw [h]
theorem jN {k:IntKind} {a b:Int} (h:a=b):Ending.returned (.int k a)=.returned (.int k b):=by rw [h]
theorem cZ {a b:ByteArray} (h:a=b):Ending.returned (.string a)=.returned (.string b):=by rw [h]
theorem jF (s:ByteArray) (k:Nat) (h:k < s.size):s.data.toList.take (k+1)=s.data.toList.take k++[s[k]]:=by
 rw [List.take_succ_eq_append_getElem (by simpa using h)];rfl
theorem drop_cons (s:ByteArray) (k:Nat) (h:k < s.size):s.data.toList.drop k=s[k]::s.data.toList.drop (k+1):=by
 rw [List.drop_eq_getElem_cons (by simpa using h)];rfl
theorem iC (s:ByteArray):s.data.toList.drop s.size=[]:=List.drop_of_length_le (by simp)
theorem Ig (s:ByteArray) (h:0 < s.size):s.data.toList.head?=some s[0]:=by
 rw [List.head?_eq_getElem?,List.getElem?_eq_getElem (by simpa using h)];rfl
theorem ak (s:ByteArray):s.data.toList.length=s.size:=by simp
theorem gJ (g j:Nat):(⟨g,0,none⟩:Addr).add j=⟨g,j,none⟩:=by unfold Addr.add;split<;>simp_all
theorem kU {w w':World} {o:Obj} {row:Option Nat} (h:(w.alloc o).grownBy w' row):w.grownBy w' row :=
 ⟨h.os,h.tape,h.output,by have:=h.size;simp at this;omega,fun k hk hr=>(h.block k (by have:=World.size_alloc w o;omega) hr).trans (Below.heap_alloc w o k hk)⟩
theorem oI {P:Program} {ops:Array Oper} {rest:List Oper} {o:Oper} {a:Act} {Q:Exit→Act→World→Prop} {w:World} (hgd:o.guard=none) (s x:Operand) (t:TypeId)
  (ho:o.op=.call { callee:=.builtin .append,args:=#[s,x],argTypes:=#[t,t] })
  (base:Nat) (e:TypeId) (i:TypeInfo) (z:Value) (size bytes:Nat) (ht:P.underlying t=some (.slice e)) (hi:P.info? e=some i) (hz:i.zero=some z)
  (hsize:i.size=size) (hby:i.bytes=bytes) (hzs:z.cells.size=size) (hsz:0 < size)
  (v:Value) (n:Nat) (xs:List Value) (hs:a.eval s=v) (hown:w.ownsRow base e size v n xs)
  (us:Array Value) (zL:us.size=size) (h1:∀u∈us.toList,u.oneCell'=true) (hx:a.eval x=.slice (some ⟨w.heap.size,0,none⟩) 1 1)
  (h63:n+1≤maxLen) (hbytes:(n+1)*bytes≤140737488355328) (hbase:base≤w.heap.size)
  (h:∀g cap w',w'.ownsRow base e size (.slice (some ⟨g,0,none⟩) (n+1) cap) (n+1) (xs++us.toList)→w.grownBy w' v.ownBlock →
   wpList P ops Q rest (a.put o.dst (.slice (some ⟨g,0,none⟩) (n+1) cap)) w'):wpList P ops Q (o::rest) a (w.alloc (.cells us e)):=by
 refine wpList_append_own _ hgd s x t ho base e i z size bytes ht hi hz hsize hby hzs hsz v n xs hs (hown.alloc _) ⟨w.heap.size,0,none⟩ 1 1 us.toList hx (by simp [zL]) ?_ h1 h63 hbytes (by simp;omega) ?_
 ·intro j u hj
  rw [gJ,cell_of_row (w.alloc (.cells us e)) w.heap.size j us e (0,0) (heap_alloc_new w _)]
  simpa using hj
 intro v' w' hown' hgrow _
 rcases hown'.2 with ⟨_,h0⟩ | ⟨g,cap,cur,rfl,_⟩
 ·omega
 exact h g cap w' hown' (kU hgrow)
theorem aB {P:Program} {ops:Array Oper} {rest:List Oper} {o:Oper} {a:Act} {Q:Exit→Act→World→Prop} {w:World} (hgd:o.guard=none) (s x:Operand) (t:TypeId)
  (ho:o.op=.call { callee:=.builtin .append,args:=#[s,x],argTypes:=#[t,t] })
  (base:Nat) (e:TypeId) (i:TypeInfo) (z:Value) (bytes:Nat) (ht:P.underlying t=some (.slice e)) (hi:P.info? e=some i) (hz:i.zero=some z)
  (hsize:i.size=1) (hby:i.bytes=bytes) (hzs:z.cells.size=1)
  (v:Value) (n:Nat) (xs:List Value) (hs:a.eval s=v) (hown:w.ownsRow base e 1 v n xs)
  (u:Value) (h1:u.oneCell'=true) (hx:a.eval x=.slice (some ⟨w.heap.size,0,none⟩) 1 1)
  (h63:n+1≤maxLen) (hbytes:(n+1)*bytes≤140737488355328) (hbase:base≤w.heap.size)
  (h:∀g cap w',w'.ownsRow base e 1 (.slice (some ⟨g,0,none⟩) (n+1) cap) (n+1) (xs++[u])→w.grownBy w' v.ownBlock →
   wpList P ops Q rest (a.put o.dst (.slice (some ⟨g,0,none⟩) (n+1) cap)) w'):wpList P ops Q (o::rest) a (w.alloc (.cells #[u] e)) :=
 oI hgd s x t ho base e i z 1 bytes ht hi hz hsize hby hzs (by decide) v n xs hs hown #[u] rfl (by intro y hy;simp at hy;subst hy;exact h1) hx h63 hbytes hbase h
theorem Jg (w:World) (e size:Nat):(w.alloc (.cells #[] e)).ownsRow w.heap.size e size (.slice (some ⟨w.heap.size,0,none⟩) 0 0) 0 [] :=
 World.ownsRow_made w #[] 0 (Nat.le_refl _) (by unfold maxLen;omega) (by simp)
theorem CR (w:World) (e size n:Nat) (cs:Array Value) (hs:cs.size=n*size) (hn:n≤maxLen):(w.alloc (.cells cs e)).ownsRow w.heap.size e size (.slice (some ⟨w.heap.size,0,none⟩) n n) n cs.toList :=
 ⟨by simp [hs],.inr ⟨w.heap.size,n,cs,rfl,Nat.le_refl _,heap_alloc_new w _,Nat.le_refl _,hn,hs,List.take_of_length_le (by simp [hs])⟩⟩
theorem jG {B:Nat} {w0 w w':World} {v:Value} {base e size n:Nat} {xs:List Value} (hb:Below B w0 w) (hown:w.ownsRow base e size v n xs) (hg:w.grownBy w' v.ownBlock) (hB:B≤base) (hw:B≤w.heap.size):Below B w0 w' :=
 hb.grown hg hw (fun k hk=>Nat.le_trans hB (hown.lt k hk).1)
theorem bP {P:Program} {w:World} {base e:Nat} {v:Value} {n:Nat} {l:List UInt8} (h:w.ownsRow base e 1 v n (byteCells l)) (src dst:TypeId)
  (hs:P.underlying src=some (.slice e)) (he:P.underlying e=some (.int .u8)) (hd:P.underlying dst=some .string) :
  (convert src dst v).run P w=.ok (.string ⟨l.toArray⟩) w:=by
 have hl:l.length=n:=by have:=h.1;simpa [byteCells] using this
 rcases h.2 with ⟨rfl,rfl⟩ | ⟨g,cap,cur,rfl,_⟩
 ·have:l=[]:=List.eq_nil_of_length_eq_zero hl
  subst this
  exact run_convert_bytes_nil w src e hs he 0 0 dst hd
 have hc:=h.cells (g:=g) rfl
 rw [run_convert_bytes_arg w src e hs he g 0 n cap (l.map fun b=>(b.toNat:Int)) (by simpa using hl) ?_ dst hd]
 ·congr 2
  simp only [strOfNums,List.map_map]
  congr 2
  rw [show ((fun n:Int=>UInt8.ofNat n.toNat)∘fun b:UInt8=>(b.toNat:Int))=id from by funext b;simp]
  simp
 intro j hj
 have:=hc j (.int .u8 ((l.map fun b=>(b.toNat:Int)).getD j 0)) (by
  have hjl:j < l.length:=by omega
  simp [byteCells,List.getD,List.getElem?_eq_getElem hjl])
 rw [gJ] at this
 simpa using this
theorem oJ {w w':World} (h:Below w.heap.size w w') (row:Option Nat):w.grownBy w' row:=⟨h.os,h.tape,h.output,h.size,fun k hk _=>h.block k hk⟩
theorem own_below {w w':World} {B e size n:Nat} {v:Value} {xs:List Value} (h:w.ownsRow B e size v n xs) (hb:Below w.heap.size w w'):w'.ownsRow B e size v n xs :=
 h.kept (oJ hb none) (by cases hv:v.ownBlock<;>simp)
theorem block_lt {w:World} {b:Nat} {o:Obj} (h:w.heap[b]?=some o):b < w.heap.size:=(Array.getElem?_eq_some_iff.1 h).1
def bn (ss:List ByteArray):List Value:=ss.map Value.string
theorem iX (ss:List ByteArray) (j:Nat) (hj:j < ss.length):(bn ss)[j]?=some (.string ss[j]):=by simp [bn,hj]
theorem fQ (ss:List ByteArray) (f:ByteArray):bn ss++[Value.string f]=bn (ss++[f]):=by simp [bn]
structure Own (w W:World) (e size:Nat) (v:Value) (n:Nat) (xs:List Value):Prop where
 below:Below w.heap.size w W
 own:W.ownsRow w.heap.size e size v n xs
theorem Own.size {w W:World} {e size n:Nat} {v:Value} {xs:List Value} (h:Own w W e size v n xs):w.heap.size≤W.heap.size:=h.below.size
theorem Own.fP (w:World) (e size:Nat):Own w w e size (.slice none 0 0) 0 []:=⟨Below.refl _ _,World.ownsRow_nil _ _ _ _⟩
theorem Own.empty (w:World) (e size:Nat):Own w (w.alloc (.cells #[] e)) e size (.slice (some ⟨w.heap.size,0,none⟩) 0 0) 0 [] :=
 ⟨(Below.refl _ _).alloc (Nat.le_refl _) _,Jg w e size⟩
theorem Own.call {w W W':World} {e size n:Nat} {v:Value} {xs:List Value} (h:Own w W e size v n xs) (hb:Below W.heap.size W W'):Own w W' e size v n xs :=
 ⟨h.below.trans (hb.mono h.below.size),own_below h.own hb⟩
theorem Own.alloc {w W:World} {e size n:Nat} {v:Value} {xs:List Value} (h:Own w W e size v n xs) (o:Obj):Own w (W.alloc o) e size v n xs :=
 ⟨h.below.alloc h.below.size _,h.own.alloc _⟩
theorem Own.drew {w W:World} {e size n:Nat} {v:Value} {xs:List Value} (h:Own w W e size v n xs):Own w W.drew e size v n xs:=⟨h.below.drew,h.own⟩
theorem Own.drewN {w W:World} {e size n:Nat} {v:Value} {xs:List Value} (h:Own w W e size v n xs) (k:Nat):Own w (W.drewN k) e size v n xs :=
 ⟨⟨h.below.os,h.below.tape,h.below.output,h.below.size,h.below.block⟩,h.own⟩
theorem Own.push {w W W':World} {e size n m:Nat} {v v':Value} {xs ys:List Value} (h:Own w W e size v n xs) (hown:W'.ownsRow w.heap.size e size v' m ys) (hg:W.grownBy W' v.ownBlock):Own w W' e size v' m ys :=
 ⟨jG h.below h.own hg (Nat.le_refl _) h.below.size,hown⟩
theorem Own.from_ {w0 w W:World} {e size n:Nat} {v:Value} {xs:List Value} (h:Own w W e size v n xs) (hb:Below w0.heap.size w0 w):Own w0 W e size v n xs :=
 ⟨hb.trans (h.below.mono hb.size),h.own.1,by
  rcases h.own.2 with hn | ⟨g,cap,cur,hv,hg,r⟩
  ·exact .inl hn
  ·exact .inr ⟨g,cap,cur,hv,Nat.le_trans hb.size hg,r⟩⟩
theorem mk_inj (l m:List UInt8):(⟨l.toArray⟩:ByteArray)=⟨m.toArray⟩↔l=m :=
 ⟨fun h=>by injection h with h;simpa using congrArg Array.toList h,fun h=>by rw [h]⟩
theorem mI (l:List UInt8) (s:ByteArray):(⟨l.toArray⟩:ByteArray)=s↔l=s.toList:=by
 rw [Lib.toList_data]
 obtain⟨d⟩:=s;obtain⟨m⟩:=d
 exact mk_inj l m
theorem O3 (s t:ByteArray):(s.toList==t.toList)=decide (s=t):=by
 rw [Bool.eq_iff_iff,decide_eq_true_iff,beq_iff_eq,Lib.toList_data,Lib.toList_data]
 obtain⟨⟨l⟩⟩:=s;obtain⟨⟨m⟩⟩:=t
 exact (mk_inj l m).symm
theorem iY (s:ByteArray) (hp:0 < s.size):s.toList.isEmpty=false:=by
 rw [Lib.toList_data]
 cases h:s.data.toList with
 | nil=>have:=ak s;rw [h] at this;simp at this;omega
 | cons a l=>rfl
theorem oK (s:ByteArray) (hp:s.size=0):s.data.toList=[]:=by
 rw [←List.length_eq_zero_iff];simpa using hp
theorem CS (s:ByteArray) (hp:s.size=0):s.toList.isEmpty=true:=by
 rw [Lib.toList_data,oK s hp];rfl
def Rd (w:World) (size:Nat) (v:Value) (n:Nat) (xs:List Value):Prop :=
 xs.length=n*size∧∃A cap,v=.slice A n cap∧n≤cap∧(n=0∨∃g o,A=some ⟨g,o,none⟩∧∀j u,xs[j]?=some u→w.cell? ⟨g,o+j,none⟩=some u)
theorem Rd.keep {w w':World} {size n:Nat} {v:Value} {xs:List Value} (h:Rd w size v n xs) (hb:Below w.heap.size w w'):Rd w' size v n xs:=by
 obtain⟨h1,A,cap,hv,hc,h2⟩:=h
 refine⟨h1,A,cap,hv,hc,?_⟩
 rcases h2 with h2 | ⟨g,o,hA,h3⟩
 ·exact .inl h2
 refine .inr ⟨g,o,hA,fun j u hj=>?_⟩
 have h4:=h3 j u hj
 exact (hb.cell (block_lt_of_cell? w _ h4)).trans h4
theorem Rd.aN {w:World} {B e size n:Nat} {v:Value} {xs:List Value} (h:w.ownsRow B e size v n xs):Rd w size v n xs:=by
 refine⟨h.1,?_⟩
 rcases h.2 with ⟨rfl,rfl⟩ | ⟨g,cap,cur,rfl,_,_,hn,_⟩
 ·exact⟨none,0,rfl,Nat.le_refl _,.inl rfl⟩
 refine⟨_,cap,rfl,hn,.inr ⟨g,0,rfl,fun j u hj=>?_⟩⟩
 have:=h.cells (g:=g) rfl j u hj
 rw [gJ] at this;rw [Nat.zero_add];exact this
theorem below_drewN {B:Nat} {a w:World} (h:Below B a w) (n:Nat):Below B a (w.drewN n):=⟨h.os,h.tape,h.output,h.size,h.block⟩
def mkS (l:List UInt8):ByteArray:=⟨l.toArray⟩
theorem aG (l:List UInt8):(mkS l).size=l.length:=by show l.toArray.size=_;simp
theorem iD (l:List UInt8):(mkS l).data.toList=l:=rfl
theorem bQ (s:ByteArray) (a b:Nat):s.extract a b=mkS ((s.data.toList.drop a).take (b - a)):=Lib.extract_eq s a b
def nZ (b:UInt8):Bool:=b.toNat==32||b.toNat==9
theorem BA (b:UInt8):nZ b=(((b.toNat:Int)==32)||((b.toNat:Int)==9)):=by
 unfold nZ;rw [Bool.eq_iff_iff];simp;omega
theorem vZ (b:UInt8) (w:World) :
  Calls Tryz.prog 109 #[.int .u8 b.toNat] w fun e w'=>e=.returned (.bool (nZ b))∧w=w':=by
 have H:=hid (BA b)
 go_enter Tryz.func109,Tryz.ntmps109
 go_wp2
 all_goals go_ret
 all_goals exact⟨bE (by rw [H.o];try simp [*]),rfl⟩
def lN:List UInt8→Option (List UInt8)→List (List UInt8)
 | [],none=>[]
 | [],some c=>[c]
 | b::l,none=>if nZ b then lN l none else lN l (some [b])
 | b::l,some c=>if nZ b then c::lN l none else lN l (some (c++[b]))
def fieldsOf (l:List UInt8):List (List UInt8):=lN l none
def aH (s:ByteArray):List ByteArray:=(fieldsOf s.data.toList).map mkS
theorem qj:∀(l:List UInt8) (c:Option (List UInt8)),(lN l c).length≤l.length+(if c.isSome then 1 else 0)
 | [],none=>by simp [lN]
 | [],some c=>by simp [lN]
 | b::l,none=>by
   have h1:=qj l none
   have h2:=qj l (some [b]);simp only [lN]
   split<;>simp at h1 h2 ⊢<;>omega
 | b::l,some c=>by
   have h1:=qj l none
   have h2:=qj l (some (c++[b]));simp only [lN]
   split<;>simp at h1 h2 ⊢<;>omega
theorem wO (s:ByteArray):(aH s).length≤s.size:=by
 have:=qj s.data.toList none
 simp [aH,fieldsOf] at this ⊢
 exact this
theorem rC (s:ByteArray) (f k:Nat) (hf:f≤k) (hk:k < s.size):(s.data.toList.drop f).take (k+1 - f)=(s.data.toList.drop f).take (k - f)++[s[k]]:=by
 have e:k+1 - f=(k - f)+1:=by omega
 have hl:=ak s
 rw [e,List.take_succ_eq_append_getElem (by simp;omega)]
 congr 2
 simp only [List.getElem_drop]
 have:f+(k - f)=k:=by omega
 simp only [this];rfl
theorem jU:(Tryz.prog.info? 9).map (fun i=>(i.zero,i.size,i.bytes))=some (some (.string ByteArray.empty),1,16):=by kernel_rfl
def RI (k:Nat) (s:ByteArray) (v:Value) (c:Option (List UInt8)):Prop :=
 (v=.int .i64 (-1)∧c=none)∨∃f:Nat,f < k∧v=.int .i64 f∧c=some ((s.data.toList.drop f).take (k - f))
theorem wP (s:ByteArray) (w:World) (hs:s.size≤16777216) :
  Calls Tryz.prog 74 #[.string s] w fun e w'=>∃v,e=.returned v∧Own w w' 9 1 v (aH s).length (bn (aH s)):=by
 obtain⟨i0,hi,hz0,hz1,hz2⟩:=info_parts jU
 go_enter Tryz.func74,Tryz.ntmps74
 go_wp2_with fail
 go_loopw [3,4,8] (fun v fr i wr=>∃(k:Nat) (acc:List (List UInt8)) (c:Option (List UInt8)),k≤s.size∧i=.int .i64 k∧RI k s fr c∧acc.length≤k ∧
  Own w wr 9 1 v acc.length (bn (acc.map mkS))∧acc++lN (s.data.toList.drop k) c=fieldsOf s.data.toList) (fun _ _ i _=>s.size - (intOf i).toNat)
 case atStart=>exact⟨0,[],none,Nat.zero_le _,rfl,.inl ⟨rfl,rfl⟩,Nat.le_refl _,Own.fP w _ _,rfl⟩
 case round =>
 obtain⟨k,acc,c,hk,rfl,hfr,hal,ho,wQ⟩:=hrel
 have HO:=hid ho;have HR:=hid wQ;clear ho wQ
 by_cases hlt:k < s.size
 ·have HD:=hid (drop_cons s k hlt)
  rcases hfr with ⟨rfl,rfl⟩ | ⟨f,hf,rfl,rfl⟩
  ·cases hg:nZ s[k]
   ·have HG:=hid hg
    go_wp2_with (go_at_call 109;refine (vZ _ _).mono ?_;rintro e w1 ⟨rfl,rfl⟩)
    go_roundw
    case rel =>
     refine⟨k+1,acc,some [s[k]],by omega,by go_num,.inr ⟨k,by omega,rfl,?_⟩,by omega,HO.o,?_⟩
     ·have:=rC s k k (Nat.le_refl _) hlt
      rw [this];simp
     rw [←HR.o,HD.o,lN,HG.o];rfl
    case measure=>simp [intOf];omega
   have HG:=hid hg
   go_wp2_with (go_at_call 109;refine (vZ _ _).mono ?_;rintro e w1 ⟨rfl,rfl⟩)
   go_roundw
   case rel=>exact⟨k+1,acc,none,by omega,by go_num,.inl ⟨rfl,rfl⟩,by omega,HO.o,by rw [←HR.o,HD.o,lN,HG.o];rfl⟩
   case measure=>simp [intOf];omega
  cases hg:nZ s[k]
  ·have HG:=hid hg
   have HP:=hid (rC s f k (by omega) hlt)
   go_wp2_with (go_at_call 109;refine (vZ _ _).mono ?_;rintro e w1 ⟨rfl,rfl⟩)
   go_roundw
   case rel=>exact⟨k+1,acc,_,by omega,by go_num,.inr ⟨f,by omega,rfl,rfl⟩,by omega,HO.o,by rw [←HR.o,HD.o,lN,HG.o,HP.o];rfl⟩
   case measure=>simp [intOf];omega
  have HG:=hid hg
  go_wp2_with (first
   | (go_at_call 109;refine (vZ _ _).mono ?_;rintro e w1 ⟨rfl,rfl⟩)
   | (at_builtin;refine aB rfl _ _ 110 rfl w.heap.size 9 i0 (.string ByteArray.empty) 16 Tryz.underlying110 hi hz0 hz1 hz2 rfl _ acc.length _ rfl HO.o.own _ rfl rfl (by unfold maxLen;omega) (by omega) HO.o.size ?_;intro gg cap w5 hown hg5;have tZ:=hid (HO.o.push hown hg5);clear hown hg5))
  go_roundw
  case rel =>
   refine⟨k+1,acc++[(s.data.toList.drop f).take (k - f)],none,by omega,by go_num,.inl ⟨rfl,rfl⟩,by simp;omega,?_,by rw [←HR.o,HD.o,lN,HG.o];simp⟩
   have:=tZ.o
   rw [bQ,fQ] at this
   simpa using this
  case measure=>simp [intOf];omega
 obtain rfl:k=s.size:=by omega
 have HE:=hid (iC s)
 rcases hfr with ⟨rfl,rfl⟩ | ⟨f,hf,rfl,rfl⟩
 ·go_wp2_with fail
  go_ret
  refine⟨_,rfl,?_⟩
  have e:aH s=acc.map mkS:=by rw [aH,←HR.o,HE.o];simp [lN]
  rw [e,List.length_map];exact HO.o
 go_wp2_with (at_builtin;refine aB rfl _ _ 110 rfl w.heap.size 9 i0 (.string ByteArray.empty) 16 Tryz.underlying110 hi hz0 hz1 hz2 rfl _ acc.length _ rfl HO.o.own _ rfl rfl (by unfold maxLen;omega) (by omega) HO.o.size ?_;intro gg cap w5 hown hg5;have tZ:=hid (HO.o.push hown hg5);clear hown hg5)
 go_ret
 refine⟨_,rfl,?_⟩
 have e:aH s=acc.map mkS++[mkS ((s.data.toList.drop f).take (s.size - f))]:=by rw [aH,←HR.o,HE.o];simp [lN]
 have:=tZ.o
 rw [bQ,fQ,←e] at this
 have hl:(aH s).length=acc.length+1:=by rw [e];simp
 rw [hl];exact this
theorem wR (l:List UInt8) (b:UInt8) (h:nZ b=true):lN (b::l) none=lN l none:=by rw [lN,h];rfl
theorem CU (l:List UInt8) (b:UInt8) (c:List UInt8) (h:nZ b=false):lN (b::l) (some c)=lN l (some (c++[b])):=by rw [lN,h];rfl
theorem zM (l:List UInt8) (b:UInt8) (h:nZ b=false):lN (b::l) none=lN l (some [b]):=by rw [lN,h];rfl
theorem BD (l:List UInt8) (c:List UInt8) (h:l=[]∨∃b m,l=b::m∧nZ b=true):lN l (some c)=c::lN l none:=by
 rcases h with rfl | ⟨b,m,rfl,hb⟩
 ·rfl
 rw [lN,hb,lN,hb];rfl
theorem QV (b:UInt8) (h:nZ b=true):(((b.toNat:Int)==32)=true)∨((((b.toNat:Int)==32)=false)∧(((b.toNat:Int)==9)=true)):=by
 rw [BA] at h
 cases h1:((b.toNat:Int)==32)<;>simp_all
theorem QY (b:UInt8) (h:nZ b=false):(((b.toNat:Int)==32)=false)∧(((b.toNat:Int)==9)=false)∧(((b.toNat:Int) != 32)=true)∧(((b.toNat:Int) != 9)=true):=by
 rw [BA] at h
 cases h1:((b.toNat:Int)==32)<;>cases h2:((b.toNat:Int)==9)<;>simp_all
theorem RJ (b:UInt8) (h:nZ b=true):(((b.toNat:Int) != 32)=false)∨((((b.toNat:Int) != 32)=true)∧(((b.toNat:Int) != 9)=false)):=by
 rcases QV b h with h | ⟨h1,h2⟩
 ·left;simp at h;simp [h]
 right;simp at h1 h2;simp [h2]
theorem BF (s:ByteArray) (w:World) (hs:s.size≤16777216) :
  Calls Tryz.prog 133 #[.string s] w fun e w'=>∃v,e=.returned v∧Own w w' 9 1 v (aH s).length (bn (aH s)):=by
 obtain⟨i0,hi,hz0,hz1,hz2⟩:=info_parts jU
 go_enter Tryz.func133,Tryz.ntmps133
 go_wp2_with fail
 go_loopw [3,4] (fun v i wr=>∃(k:Nat) (acc:List (List UInt8)),k≤s.size∧i=.int .i64 k∧acc.length≤k ∧
  Own w wr 9 1 v acc.length (bn (acc.map mkS))∧acc++lN (s.data.toList.drop k) none=fieldsOf s.data.toList) (fun _ i _=>s.size - (intOf i).toNat)
 case atStart=>exact⟨0,[],Nat.zero_le _,rfl,Nat.le_refl _,Own.fP w _ _,rfl⟩
 case round =>
 obtain⟨k,acc,hk,rfl,hal,ho,wQ⟩:=hrel
 have HO:=hid ho;have HR:=hid wQ;clear ho wQ
 by_cases hlt:k < s.size
 ·have HD:=hid (drop_cons s k hlt)
  cases hg:nZ s[k]
  ·obtain⟨n1,n2,n3,n4⟩:=QY _ hg
   have HG:=hid hg;clear hg
   go_wp2_with fail
   obtain⟨wo,rfl⟩:∃wo:World,wo=wr:=⟨_,rfl⟩
   go_loop [5] (fun j=>∃m:Nat,k≤m∧m≤s.size∧j=.int .i64 m∧(m=k∨(k < m∧lN (s.data.toList.drop k) none=lN (s.data.toList.drop m) (some ((s.data.toList.drop k).take (m - k)))))) (fun j=>s.size - (intOf j).toNat)
   case atStart=>exact⟨k,Nat.le_refl _,hk,rfl,.inl rfl⟩
   case round =>
   obtain⟨m,hkm,hm,rfl,hpre⟩:=hrel
   have RN:=hid hpre;clear hpre
   by_cases hlm:m < s.size
   ·have Xe:=hid (drop_cons s m hlm)
    have HP:=hid (rC s k m hkm hlm)
    cases hgm:nZ s[m]
    ·obtain⟨m1,m2,m3,m4⟩:=QY _ hgm
     have X6:=hid hgm;clear hgm
     go_wp2_with fail
     go_round
     case rel =>
      refine⟨m+1,by omega,by omega,by go_num,.inr ⟨by omega,?_⟩⟩
      rcases RN.o with rfl | ⟨_,h⟩
      ·rw [Xe.o,zM _ _ X6.o,←Xe.o,HP.o];simp
      rw [h,Xe.o,CU _ _ _ X6.o,HP.o]
     case measure=>simp [intOf];omega
    have abu:k < m:=by
     rcases Nat.lt_or_ge k m with h | h
     ·exact h
     obtain rfl:k=m:=by omega
     have:=HG.o;rw [hgm] at this;cases this
    have X6:=hid hgm
    have hfin:acc++((s.data.toList.drop k).take (m - k))::lN (s.data.toList.drop m) none=fieldsOf s.data.toList:=by
     rcases RN.o with rfl | ⟨_,h⟩
     ·omega
     rw [←HR.o,h,BD _ _ (.inr ⟨_,_,Xe.o,hgm⟩)]
    have HF:=hid hfin;have hcase:=RJ _ hgm;clear hfin hgm
    rcases hcase with q1 | ⟨q1,q2⟩
    all_goals
     go_wp2_with (at_builtin;refine aB rfl _ _ 110 rfl w.heap.size 9 i0 (.string ByteArray.empty) 16 Tryz.underlying110 hi hz0 hz1 hz2 rfl _ acc.length _ rfl HO.o.own _ rfl rfl (by unfold maxLen;omega) (by omega) HO.o.size ?_;intro gg cap w5 hown hg5;have tZ:=hid (HO.o.push hown hg5);clear hown hg5)
     go_roundw
     case rel =>
      refine⟨m,acc++[(s.data.toList.drop k).take (m - k)],hm,rfl,by simp;omega,?_,by rw [←HF.o];simp⟩
      have:=tZ.o
      rw [bQ,fQ] at this
      simpa using this
     case measure=>simp [intOf];omega
   obtain rfl:m=s.size:=by omega
   have hfin:acc++((s.data.toList.drop k).take (s.size - k))::lN (s.data.toList.drop s.size) none=fieldsOf s.data.toList:=by
    rcases RN.o with h | ⟨_,h⟩
    ·omega
    rw [←HR.o,h,BD _ _ (.inl (iC s))]
   have HF:=hid hfin;clear hfin
   go_wp2_with (at_builtin;refine aB rfl _ _ 110 rfl w.heap.size 9 i0 (.string ByteArray.empty) 16 Tryz.underlying110 hi hz0 hz1 hz2 rfl _ acc.length _ rfl HO.o.own _ rfl rfl (by unfold maxLen;omega) (by omega) HO.o.size ?_;intro gg cap w5 hown hg5;have tZ:=hid (HO.o.push hown hg5);clear hown hg5)
   go_roundw
   case rel =>
    refine⟨s.size,acc++[(s.data.toList.drop k).take (s.size - k)],Nat.le_refl _,rfl,by simp;omega,?_,by rw [←HF.o];simp⟩
    have:=tZ.o
    rw [bQ,fQ] at this
    simpa using this
   case measure=>simp [intOf];omega
  have hcase:=QV _ hg;have HG:=hid hg;clear hg
  rcases hcase with q1 | ⟨q1,q2⟩
  all_goals
   go_wp2_with fail
   go_roundw
   case rel=>exact⟨k+1,acc,by omega,by go_num,by omega,HO.o,by rw [←HR.o,HD.o,wR _ _ HG.o]⟩
   case measure=>simp [intOf];omega
 obtain rfl:k=s.size:=by omega
 have HE:=hid (iC s)
 go_wp2_with fail
 go_ret
 refine⟨_,rfl,?_⟩
 have e:aH s=acc.map mkS:=by rw [aH,←HR.o,HE.o];simp [lN]
 rw [e,List.length_map];exact HO.o
def zh (b:UInt8):Bool:=decide (48≤b.toNat∧b.toNat≤57)
def valOf (l:List UInt8):Nat:=l.foldl (fun n b=>10*n+(b.toNat - 48)) 0
theorem wT (l:List UInt8) (b:UInt8):valOf (l++[b])=10*valOf l+(b.toNat - 48):=by simp [valOf,List.foldl_append]
theorem Ll (l:List UInt8):∀n,n≤l.foldl (fun n b=>10*n+(b.toNat - 48)) n:=by
 induction l with
 | nil=>intro n;exact Nat.le_refl _
 | cons b l ih=>intro n;exact Nat.le_trans (show n≤10*n+(b.toNat - 48) by omega) (ih _)
theorem CV (l:List UInt8) (k:Nat):valOf (l.take k)≤valOf l:=by
 conv=>rhs;rw [←List.take_append_drop k l]
 unfold valOf;rw [List.foldl_append]
 exact Ll _ _
def lQ (l:List UInt8):Bool:=!l.isEmpty&&!(decide (1 < l.length)&&l.head?==some 48)&&l.all zh
def aJ (l:List UInt8) (most:Int):Int:=if lQ l=true∧(valOf l:Int)≤most then valOf l else 0
def bI (l:List UInt8) (most:Int):Int:=if lQ l=true∧(valOf l:Int)≤most then 0 else 13
theorem RO (l:List UInt8) (most:Int) (h:¬(lQ l=true∧(valOf l:Int)≤most)):aJ l most=0∧bI l most=13:=by simp only [aJ,bI,if_neg h,and_self]
theorem O4 (l:List UInt8) (most:Int) (h:lQ l=true∧(valOf l:Int)≤most):aJ l most=valOf l∧bI l most=0:=by simp only [aJ,bI,if_pos h,and_self]
def dw (l:List UInt8) (most:Int) (e:Ending):Prop:=e=.returned (.tuple #[.int .i64 (aJ l most),.int .i64 (bI l most)])
theorem fT (l:List UInt8) (most:Int) (h:¬(lQ l=true∧(valOf l:Int)≤most)):dw l most (.returned (.tuple #[.int .i64 0,.int .i64 13])):=by
 obtain⟨h1,h2⟩:=RO l most h
 rw [dw,h1,h2]
theorem wU (l:List UInt8) (most:Int) (h:lQ l=true∧(valOf l:Int)≤most):dw l most (.returned (.tuple #[.int .i64 (valOf l),.int .i64 0])):=by
 obtain⟨h1,h2⟩:=O4 l most h
 rw [dw,h1,h2]
theorem oL (b:UInt8):zh b=true↔48≤(b.toNat:Int)∧(b.toNat:Int)≤57:=by simp [zh];omega
theorem nu (s:ByteArray) (most:Int) (w:World) (hs:s.size≤maxLen) (h1:-9223372036854775808≤most) (h2:most≤9223372036854775807) :
  Calls Tryz.prog 63 #[.string s,.int .i64 most] w fun e w'=>dw s.data.toList most e∧w=w':=by
 have hl:=ak s
 unfold maxLen at hs
 by_cases h0:s.size=0
 ·have he:=CS s h0
  have hR:=hid (fT s.data.toList most (by rw [oK s h0];simp [lQ]))
  clear hl h0
  go_enter Tryz.func63,Tryz.ntmps63
  go_wp2_with fail
  go_ret2
  exact⟨hR.out,rfl⟩
 have hp:0 < s.size:=by omega
 have he:=iY s hp
 have HE:Hid (s.data.toList.isEmpty=false):=by
  have:=he;rw [Lib.toList_data] at this;exact this
 have HH:=hid (Ig s hp)
 by_cases hz:1 < s.size∧s[0].toNat=48
 ·obtain⟨hz1,hz2⟩:=hz
  have hz3:((s[0].toNat:Int)==48)=true:=by rw [hz2];rfl
  have hR:=hid (fT s.data.toList most (by
   have e:s[0]=48:=UInt8.toNat_inj.1 hz2
   simp [lQ,HH.o,e,hl,hz1]))
  clear hz2 hl h0
  go_enter Tryz.func63,Tryz.ntmps63
  go_wp2_with fail
  go_ret2
  exact⟨hR.out,rfl⟩
 have hok:lQ s.data.toList=s.data.toList.all zh:=by
  have:(decide (1 < s.data.toList.length)&&s.data.toList.head?==some 48)=false:=by
   rw [HH.o,hl]
   by_cases h:1 < s.size
   ·have:s[0].toNat≠48:=fun e=>hz ⟨h,e⟩
    have:s[0]≠48:=fun e=>this (by rw [e];rfl)
    simp [this]
   simp [h]
  rw [lQ,HE.o,this];simp
 have UR:=hid hok
 have hz':(1 < s.size∧((s[0].toNat:Int)==48)=false)∨¬1 < s.size:=by
  by_cases h:1 < s.size
  ·left;exact⟨h,by rw [beq_eq_false_iff_ne];intro e;exact hz ⟨h,by omega⟩⟩
  exact .inr h
 clear hz hok h0;have HL:=hid hl;clear hl
 rcases hz' with ⟨hz1,hz2⟩ | hz1
 all_goals
  go_enter Tryz.func63,Tryz.ntmps63
  go_wp2_with fail
  go_loop [6,23] (fun n i=>∃k v:Nat,k≤s.size∧i=.int .i64 k∧n=.int .i64 v∧v=valOf (s.data.toList.take k)∧(s.data.toList.take k).all zh=true∧(k=0∨(v:Int)≤most)) (fun _ i=>s.size - (intOf i).toNat)
  case atStart=>exact⟨0,0,Nat.zero_le _,rfl,rfl,rfl,rfl,.inl rfl⟩
  case round =>
  obtain⟨k,v,hk,rfl,rfl,hv,ha,hm⟩:=hrel
  have HV:=hid hv;have HA:=hid ha;have HM:=hid hm;clear hv ha hm
  by_cases hlt:k < s.size
  ·have hb:=s[k].toNat_lt
   have HT:=hid (jF s k hlt)
   have Lm:Hid (s[k]∈s.data.toList):=hid (by rw [←Array.mem_def];exact Array.getElem_mem _)
   by_cases hd:48≤(s[k].toNat:Int)∧(s[k].toNat:Int)≤57
   ·obtain⟨hd1,hd2⟩:=hd
    have Jh:Hid (valOf (s.data.toList.take (k+1))=10*v+(s[k].toNat - 48)):=hid (by rw [HT.o,wT,←HV.o])
    have Xf:Hid (10*v+(s[k].toNat - 48)≤valOf s.data.toList):=hid (by rw [←Jh.o];exact CV _ _)
    have um:Hid ((s.data.toList.take (k+1)).all zh=true):=hid (by
     rw [HT.o,List.all_append,HA.o];simp [oL];omega)
    by_cases hq:most < 10*(v:Int)+((s[k].toNat:Int) - 48)
    ·have hR:=hid (fT s.data.toList most (by rintro⟨_,h⟩;have:=Xf.o;omega))
     by_cases hx:most < (s[k].toNat:Int) - 48
     all_goals
      go_wp2_with fail
      go_ret2
      exact⟨hR.out,rfl⟩
    have hx:¬most < (s[k].toNat:Int) - 48:=by omega
    go_wp2_with fail
    go_round
    case rel=>exact⟨k+1,10*v+(s[k].toNat - 48),by omega,by go_num,by congr 1;omega,by rw [Jh.o],um.o,.inr (by omega)⟩
    case measure=>simp [intOf];omega
   have hR:=hid (fT s.data.toList most (by
    rintro⟨h,_⟩
    rw [UR.o,List.all_eq_true] at h
    exact hd ((oL _).1 (h _ Lm.o))))
   rcases (show (s[k].toNat:Int) < 48∨57 < (s[k].toNat:Int) by omega) with hx | hx
   all_goals
    clear hd
    go_wp2_with fail
    go_ret2
    exact⟨hR.out,rfl⟩
  obtain rfl:k=s.size:=by omega
  have HT:=hid (show s.data.toList.take s.size=s.data.toList from List.take_of_length_le (by simp))
  have hR:=hid (wU s.data.toList most (by
   have h3:=HA.o;have h4:=HV.o;have h5:=HM.o
   rw [HT.o] at h3 h4
   exact⟨by rw [UR.o,h3],by rw [←h4];omega⟩))
  go_wp2_with fail
  go_ret2
  refine⟨?_,rfl⟩
  have h4:=HV.o;rw [HT.o] at h4;rw [h4];exact hR.out
def cgo (cur:List UInt8):List UInt8→List (List UInt8)
 | []=>[cur]
 | b::l=>if b.toNat=44 then cur::cgo [] l else cgo (cur++[b]) l
theorem uo (b:UInt8) (l:List UInt8):Lib.index (b::l) [44]=if b.toNat=44 then 0 else if Lib.index l [44] = -1 then -1 else Lib.index l [44]+1:=by
 have e:(44:UInt8)==b↔b.toNat=44:=by
  rw [beq_iff_eq]
  constructor
  ·rintro rfl;rfl
  intro h;exact (UInt8.toNat_inj.1 (h.trans (by rfl))).symm
 by_cases h:b.toNat=44
 ·have h2:=e.2 h
  rw [if_pos h,Lib.index,if_pos (by simpa [List.isPrefixOf] using h2)]
 have h2:¬((44:UInt8)==b)=true:=fun hh=>h (e.1 hh)
 rw [if_neg h,Lib.index,if_neg (by simpa [List.isPrefixOf] using h2)]
 simp only [beq_iff_eq]
theorem Ji (l:List UInt8):∀cur,(Lib.index l [44] = -1∧cgo cur l=[cur++l])∨∃i:Nat,Lib.index l [44]=i∧i < l.length∧cgo cur l=(cur++l.take i)::cgo [] (l.drop (i+1)):=by
 induction l with
 | nil=>intro cur;exact .inl ⟨rfl,by simp [cgo]⟩
 | cons b l ih =>
  intro cur
  rw [uo]
  by_cases h:b.toNat=44
  ·rw [if_pos h]
   exact .inr ⟨0,rfl,by simp,by simp [cgo,h]⟩
  rw [if_neg h]
  rcases ih (cur++[b]) with ⟨h1,h2⟩ | ⟨i,h1,h2,h3⟩
  ·exact .inl ⟨by rw [if_pos h1],by rw [cgo,if_neg h,h2];simp⟩
  refine .inr ⟨i+1,by rw [h1,if_neg (by omega)];omega,by simpa using h2,?_⟩
  rw [cgo,if_neg h,h3];simp
theorem sD:∀(n:Nat) (l:List UInt8),l.length≤n→Lib.splitK [44] 0 (Lib.count l [44]) l=cgo [] l
 | n,l,hn=>by
   rcases Ji l [] with ⟨h1,h2⟩ | ⟨i,h1,h2,h3⟩
   ·rw [Lib.count_miss h1,h2];rfl
   ·cases n with
    | zero=>omega
    | succ n =>
     rw [Lib.count_hit (by simp) h1,Nat.add_comm 1,Lib.splitK,if_neg (by rw [h1];simp),h1,h3]
     have:=sD n (l.drop (i+1)) (by simp;omega)
     simp only [List.length_cons,List.length_nil,Int.toNat_natCast,Nat.add_zero,Nat.zero_add,List.nil_append];rw [this]
theorem CX (s:ByteArray):(Lib.splitB ⟨#[44]⟩ 0 (Lib.countB s ⟨#[44]⟩) s).map (·.data.toList)=cgo [] s.data.toList:=by
 rw [Lib.splitB_data]
 exact sD _ _ (Nat.le_refl _)
theorem Ih (l:List UInt8):∀cur,(cgo cur l).length≤l.length+1:=by
 induction l with
 | nil=>intro cur;simp [cgo]
 | cons b l ih =>
  intro cur
  rw [cgo]
  split
  ·have:=ih [];simp;omega
  have:=ih (cur++[b]);simp;omega
def chop (k:Nat):Nat→List UInt8→List (List UInt8)
 | 0,_=>[]
 | n+1,l=>if l=[] then [] else l.take k::chop k n (l.drop k)
theorem Jj (k n:Nat) (l:List UInt8) (h:l≠[]) (hn:l.length≤n):chop k n l=l.take k::chop k (n - 1) (l.drop k):=by
 cases n with
 | zero=>exact absurd (List.eq_nil_of_length_eq_zero (by omega)) h
 | succ n=>rw [chop,if_neg h];rfl
theorem sF (k n:Nat):chop k n []=[]:=by cases n<;>simp [chop]
theorem zN (k:Nat) (hk:0 < k):∀(n m:Nat) (l:List UInt8),l.length≤n→l.length≤m→chop k n l=chop k m l
 | 0,m,l,h1,_=>by
   have:l=[]:=List.eq_nil_of_length_eq_zero (by omega)
   subst this;rw [sF,sF]
 | n+1,m,l,h1,h2=>by
   by_cases h:l=[]
   ·subst h;rw [sF,sF]
   ·have hp:=List.length_pos_iff.2 h
    cases m with
    | zero=>omega
    | succ m =>
     rw [chop,chop,if_neg h,if_neg h,zN k hk n m _ (by simp;omega) (by simp;omega)]
theorem wV (k:Nat):∀(n:Nat) (l:List UInt8),(chop k n l).length≤n
 | 0,_=>by simp [chop]
 | n+1,l=>by
   rw [chop]
   split
   ·simp
   ·have:=wV k n (l.drop k);simp;omega
def kV (kind:Int) (l:List UInt8):List (List UInt8):=if kind=3 then cgo [] l else chop kind.toNat l.length l
theorem ny (kind:Int) (l:List UInt8):(kV kind l).length≤l.length+1:=by
 unfold kV
 split
 ·exact Ih _ _
 have:=wV kind.toNat l.length l;omega
def fu (b:UInt8):Bool:=decide (32 < b.toNat∧b.toNat < 127∧b.toNat≠47∧b.toNat≠44∧b.toNat≠35)
def iE (kind:Int) (l:List UInt8):Int :=
 if kind=1 then (match l with | [a]=>if fu a=true then a.toNat else 0 | _=>0)
 else if kind=2 then (match l with | [a,b]=>if fu a=true∧fu b=true then a.toNat*256+b.toNat else 0 | _=>0)
 else aJ l 65535
theorem dJ (l:List UInt8) (m:Int) (hm:0≤m):0≤aJ l m∧aJ l m≤m:=by
 unfold aJ
 split
 ·rename_i h;exact⟨by omega,h.2⟩
 omega
theorem sG (kind:Int) (l:List UInt8):0≤iE kind l∧iE kind l≤65535:=by
 unfold iE
 split
 ·split
  ·rename_i a
   have:=a.toNat_lt
   split<;>omega
  omega
 split
 ·split
  ·rename_i a b
   have:=a.toNat_lt
   have:=b.toNat_lt
   split<;>omega
  omega
 exact dJ _ _ (by omega)
theorem fH (s:ByteArray) (most:Int) (w:World) (hs:s.size≤maxLen) (h1:-9223372036854775808≤most) (h2:most≤9223372036854775807) :
  Calls Tryz.prog 103 #[.string s,.int .i64 most] w fun e w'=>dw s.data.toList most e∧w=w':=by
 have hl:=ak s
 unfold maxLen at hs
 by_cases h0:s.size=0
 ·have hR:=hid (fT s.data.toList most (by rw [oK s h0];simp [lQ]))
  have hz:((s.size:Int)==0)=true:=by rw [h0];rfl
  clear hl h0
  go_enter Tryz.func103,Tryz.ntmps103
  go_wp2_with fail
  go_ret2
  exact⟨hR.out,rfl⟩
 have hp:0 < s.size:=by omega
 have he:=iY s hp
 have hz0:((s.size:Int)==0)=false:=by rw [beq_eq_false_iff_ne];omega
 have HE:Hid (s.data.toList.isEmpty=false):=by
  have:=he;rw [Lib.toList_data] at this;exact this
 clear he;have HH:=hid (Ig s hp)
 by_cases hz:1 < s.size∧s[0].toNat=48
 ·obtain⟨hz1,hz2⟩:=hz
  have hz3:((s[0].toNat:Int)==48)=true:=by rw [hz2];rfl
  have hR:=hid (fT s.data.toList most (by
   have e:s[0]=48:=UInt8.toNat_inj.1 hz2
   simp [lQ,HH.o,e,hl,hz1]))
  clear hz2 hl h0
  go_enter Tryz.func103,Tryz.ntmps103
  go_wp2_with fail
  go_ret2
  exact⟨hR.out,rfl⟩
 have hok:lQ s.data.toList=s.data.toList.all zh:=by
  have:(decide (1 < s.data.toList.length)&&s.data.toList.head?==some 48)=false:=by
   rw [HH.o,hl]
   by_cases h:1 < s.size
   ·have:s[0].toNat≠48:=fun e=>hz ⟨h,e⟩
    have:s[0]≠48:=fun e=>this (by rw [e];rfl)
    simp [this]
   simp [h]
  rw [lQ,HE.o,this];simp
 have UR:=hid hok
 have hz':(1 < s.size∧((s[0].toNat:Int)==48)=false)∨¬1 < s.size:=by
  by_cases h:1 < s.size
  ·left;exact⟨h,by rw [beq_eq_false_iff_ne];intro e;exact hz ⟨h,by omega⟩⟩
  exact .inr h
 clear hz hok h0;have HL:=hid hl;clear hl
 rcases hz' with ⟨hz1,hz2⟩ | hz1
 all_goals
  go_enter Tryz.func103,Tryz.ntmps103
  go_wp2_with fail
  go_loop [7] (fun i=>∃k:Nat,k≤s.size∧i=.int .i64 k∧(s.data.toList.take k).all zh=true) (fun i=>s.size - (intOf i).toNat)
  case atStart=>exact⟨0,Nat.zero_le _,rfl,rfl⟩
  case round =>
  obtain⟨k,hk,rfl,ha⟩:=hrel
  have HA:=hid ha;clear ha
  by_cases hlt:k < s.size
  ·have hb:=s[k].toNat_lt
   have HT:=hid (jF s k hlt)
   have Lm:Hid (s[k]∈s.data.toList):=hid (by rw [←Array.mem_def];exact Array.getElem_mem _)
   by_cases hd:48≤(s[k].toNat:Int)∧(s[k].toNat:Int)≤57
   ·obtain⟨hd1,hd2⟩:=hd
    have um:Hid ((s.data.toList.take (k+1)).all zh=true):=hid (by
     rw [HT.o,List.all_append,HA.o];simp [oL];omega)
    go_wp2_with fail
    go_round
    case rel=>exact⟨k+1,by omega,by go_num,um.o⟩
    case measure=>simp [intOf];omega
   have hR:=hid (fT s.data.toList most (by
    rintro⟨h,_⟩
    rw [UR.o,List.all_eq_true] at h
    exact hd ((oL _).1 (h _ Lm.o))))
   rcases (show (s[k].toNat:Int) < 48∨57 < (s[k].toNat:Int) by omega) with hx | hx
   all_goals
    clear hd
    go_wp2_with fail
    go_ret2
    exact⟨hR.out,rfl⟩
  obtain rfl:k=s.size:=by omega
  have Z7:Hid (s.data.toList.all zh=true):=hid (by
   have h3:=HA.o
   rwa [show s.data.toList.take s.size=s.data.toList from List.take_of_length_le (by simp)] at h3)
  clear HA hk
  go_wp2_with fail
  go_loop [6,8] (fun n i=>∃k v:Nat,k≤s.size∧i=.int .i64 k∧n=.int .i64 v∧v=valOf (s.data.toList.take k)∧(v:Int)≤9223372036854775807) (fun _ i=>s.size - (intOf i).toNat)
  case atStart=>exact⟨0,0,Nat.zero_le _,rfl,rfl,rfl,by omega⟩
  case round =>
  obtain⟨k,v,hk,rfl,rfl,hv,hm⟩:=hrel
  have HV:=hid hv;clear hv
  by_cases hlt2:k < s.size
  ·have hb:=s[k].toNat_lt
   have HT:=hid (jF s k hlt2)
   have Lm:Hid (s[k]∈s.data.toList):=hid (by rw [←Array.mem_def];exact Array.getElem_mem _)
   obtain⟨hd1,hd2⟩:=(oL s[k]).1 (List.all_eq_true.1 Z7.o _ Lm.o)
   have Jh:Hid (valOf (s.data.toList.take (k+1))=10*v+(s[k].toNat - 48)):=hid (by rw [HT.o,wT,←HV.o])
   have Xf:Hid (10*v+(s[k].toNat - 48)≤valOf s.data.toList):=hid (by rw [←Jh.o];exact CV _ _)
   by_cases hq1:922337203685477580 < (v:Int)
   ·have hR:=hid (fT s.data.toList most (by rintro⟨_,h⟩;have:=Xf.o;omega))
    go_wp2_with fail
    go_ret2
    exact⟨hR.out,rfl⟩
   by_cases hq2:(v:Int)=922337203685477580
   ·have X7:((v:Int)==922337203685477580)=true:=by rw [hq2];rfl
    by_cases hq3:7 < (s[k].toNat:Int) - 48
    ·have hR:=hid (fT s.data.toList most (by rintro⟨_,h⟩;have:=Xf.o;omega))
     clear hq2
     go_wp2_with fail
     go_ret2
     exact⟨hR.out,rfl⟩
    have hup:10*(v:Int)+((s[k].toNat:Int) - 48)≤9223372036854775807:=by omega
    clear hq2
    go_wp2_with fail
    go_round
    case rel=>exact⟨k+1,10*v+(s[k].toNat - 48),by omega,by go_num,by congr 1;omega,by rw [Jh.o],by omega⟩
    case measure=>simp [intOf];omega
   have X7:((v:Int)==922337203685477580)=false:=by rw [beq_eq_false_iff_ne];exact hq2
   have hup:10*(v:Int)+((s[k].toNat:Int) - 48)≤9223372036854775807:=by omega
   clear hq2
   go_wp2_with fail
   go_round
   case rel=>exact⟨k+1,10*v+(s[k].toNat - 48),by omega,by go_num,by congr 1;omega,by rw [Jh.o],by omega⟩
   case measure=>simp [intOf];omega
  obtain rfl:k=s.size:=by omega
  have HT:=hid (show s.data.toList.take s.size=s.data.toList from List.take_of_length_le (by simp))
  have X8:Hid (v=valOf s.data.toList):=hid (by have h4:=HV.o;rwa [HT.o] at h4)
  by_cases Z8:most < (v:Int)
  ·have hR:=hid (fT s.data.toList most (by rintro⟨_,h⟩;have:=X8.o;omega))
   go_wp2_with fail
   go_ret2
   exact⟨hR.out,rfl⟩
  have hR:=hid (wU s.data.toList most (by
   have:=X8.o
   exact⟨by rw [UR.o,Z7.o],by omega⟩))
  go_wp2_with fail
  go_ret2
  refine⟨?_,rfl⟩
  rw [X8.o];exact hR.out
theorem Lp (b:UInt8):fu b=(decide (32 < (b.toNat:Int))&&(decide ((b.toNat:Int) < 127)&&(!((b.toNat:Int)==47)&&(!((b.toNat:Int)==44)&&!((b.toNat:Int)==35))))):=by
 unfold fu;rw [Bool.eq_iff_iff];simp;omega
theorem wW (b:UInt8):∃x:Int,x=b.toNat∧((¬32 < x∧¬33≤x∧fu b=false)∨(32 < x∧33≤x∧¬x < 127∧¬x≤126∧fu b=false)∨(32 < x∧33≤x∧x < 127∧x≤126∧(x != 47)=false∧fu b=false)∨(32 < x∧33≤x∧x < 127∧x≤126∧(x != 47)=true∧(x != 44)=false∧fu b=false) ∨
  (32 < x∧33≤x∧x < 127∧x≤126∧(x != 47)=true∧(x != 44)=true∧(x != 35)=false∧fu b=false)∨(32 < x∧33≤x∧x < 127∧x≤126∧(x != 47)=true∧(x != 44)=true∧(x != 35)=true∧fu b=true)):=by
 refine⟨_,rfl,?_⟩
 rw [Lp]
 generalize (b.toNat:Int)=x
 by_cases h1:32 < x
 ·by_cases h2:x < 127
  ·by_cases h3:x=47
   ·simp [h3]
   by_cases h4:x=44
   ·simp [h4]
   by_cases h5:x=35
   ·simp [h5]
   simp [h1,h2,h3,h4,h5];omega
  simp [h1,h2];omega
 simp [h1];omega
theorem sH (b:UInt8) (w:World) :
  Calls Tryz.prog 128 #[.int .u8 b.toNat] w fun e w'=>e=.returned (.bool (fu b))∧w=w':=by
 obtain⟨x,hx,h⟩:=wW b
 rw [←hx];clear hx
 rcases h with ⟨h1,-,hR⟩ | ⟨h1,-,h2,-,hR⟩ | ⟨h1,-,h2,-,h3,hR⟩ | ⟨h1,-,h2,-,h3,h4,hR⟩ | ⟨h1,-,h2,-,h3,h4,h5,hR⟩ | ⟨h1,-,h2,-,h3,h4,h5,hR⟩
 all_goals
  rw [hR];clear hR
  go_enter Tryz.func128,Tryz.ntmps128
  go_wp2
  go_ret
  exact⟨rfl,rfl⟩
theorem CY (b:UInt8) (w:World) :
  Calls Tryz.prog 233 #[.int .u8 b.toNat] w fun e w'=>e=.returned (.bool (fu b))∧w=w':=by
 obtain⟨x,hx,h⟩:=wW b
 rw [←hx];clear hx
 rcases h with ⟨-,h1,hR⟩ | ⟨-,h1,-,h2,hR⟩ | ⟨-,h1,-,h2,h3,hR⟩ | ⟨-,h1,-,h2,h3,h4,hR⟩ | ⟨-,h1,-,h2,h3,h4,h5,hR⟩ | ⟨-,h1,-,h2,h3,h4,h5,hR⟩
 all_goals
  rw [hR];clear hR
  go_enter Tryz.func233,Tryz.ntmps233
  go_wp2
  go_ret
  exact⟨rfl,rfl⟩
theorem QZ (s:ByteArray) (h:s.size=1):s.data.toList=[s[0]]:=by
 have:=drop_cons s 0 (by omega)
 have h1:=iC s;rw [h] at h1;rw [List.drop_zero] at this;rw [this,h1]
theorem Q0 (s:ByteArray) (h:s.size=2):s.data.toList=[s[0],s[1]]:=by
 have:=drop_cons s 0 (by omega)
 have h0:=drop_cons s 1 (by omega)
 have h1:=iC s;rw [h] at h1;rw [List.drop_zero] at this;rw [this,h0,h1]
theorem CZ (l:List UInt8) (h:l.length≠1):iE 1 l=0:=by
 unfold iE
 rw [if_pos rfl]
 split
 ·simp at h
 rfl
theorem C8 (l:List UInt8) (h:l.length≠2):iE 2 l=0:=by
 unfold iE
 rw [if_neg (by decide),if_pos rfl]
 split
 ·simp at h
 rfl
theorem Lr (a:UInt8):iE 1 [a]=if fu a=true then (a.toNat:Int) else 0:=rfl
theorem Ls (a b:UInt8):iE 2 [a,b]=if fu a=true∧fu b=true then (a.toNat:Int)*256+b.toNat else 0:=rfl
theorem Lu (l:List UInt8):iE 3 l=aJ l 65535:=rfl
theorem X9 (a:UInt8):(a.toNat:Int)*256%65536=(a.toNat:Int)*256:=by have:=a.toNat_lt;omega
theorem RP (a b:UInt8):bits .or .u16 ((a.toNat:Int)*256) (b.toNat:Int)=(a.toNat:Int)*256+b.toNat:=by
 have h1:=a.toNat_lt
 have h2:=b.toNat_lt
 exact bits_join .u16 16 (by decide) wraps_u16 8 _ _ (by omega) (by omega) (by omega) (by omega) (by omega) (by omega)
theorem ql (kind:Int) (s:ByteArray) (w:World) (hk:kind=1∨kind=2∨kind=3) (hs:s.size≤maxLen) :
  Calls Tryz.prog 91 #[.int .i64 kind,.string s] w fun e w'=>e=.returned (.int .u16 (iE kind s.data.toList))∧∃n,w'=w.drewN n:=by
 have hs':=hs
 unfold maxLen at hs'
 rcases hk with rfl | rfl | rfl
 ·by_cases h1:s.size=1
  ·have hlt:0 < s.size:=by omega
   have hR:=hid (show iE 1 s.data.toList=if fu (s[0]'hlt)=true then ((s[0]'hlt).toNat:Int) else 0 by rw [QZ s h1,Lr])
   have hlen:((s.size:Int)==1)=true:=by rw [h1];rfl
   have hb:=s[0].toNat_lt;clear h1
   cases hq:fu s[0]
   ·have HQ:=hid hq
    clear hq
    go_enter Tryz.func91,Tryz.ntmps91
    go_wp2_with (go_at_call 128;refine (sH _ _).mono ?_;rw [HQ.o];rintro e w1 ⟨rfl,rfl⟩)
    go_ret
    exact⟨by rw [hR.out,HQ.o];rfl,0,rfl⟩
   have HQ:=hid hq;clear hq
   go_enter Tryz.func91,Tryz.ntmps91
   go_wp2_with (go_at_call 128;refine (sH _ _).mono ?_;rw [HQ.o];rintro e w1 ⟨rfl,rfl⟩)
   go_ret
   exact⟨by rw [hR.out,HQ.o];rfl,0,rfl⟩
  have hR:=hid (CZ s.data.toList (by simpa using h1))
  have hlen:((s.size:Int)==1)=false:=by rw [beq_eq_false_iff_ne];omega
  go_enter Tryz.func91,Tryz.ntmps91
  go_wp2_with fail
  go_ret
  exact⟨by rw [hR.out];rfl,0,rfl⟩
 ·by_cases h1:s.size=2
  ·have hlt:0 < s.size:=by omega
   have hlt1:1 < s.size:=by omega
   have hR:=hid (show iE 2 s.data.toList=if fu (s[0]'hlt)=true∧fu (s[1]'hlt1)=true then ((s[0]'hlt).toNat:Int)*(256:Int)+((s[1]'hlt1).toNat:Int) else 0 by rw [Q0 s h1,Ls])
   have hlen:((s.size:Int)==2)=true:=by rw [h1];rfl
   have ha:=s[0].toNat_lt;have hb:=s[1].toNat_lt;have hsh:=X9 s[0];have hjo:=RP s[0] s[1];clear h1
   cases hq:fu s[0]
   ·have HQ:=hid hq
    clear hq
    go_enter Tryz.func91,Tryz.ntmps91
    go_wp2_with (go_at_call 128;refine (sH _ _).mono ?_;rw [HQ.o];rintro e w1 ⟨rfl,rfl⟩)
    go_ret
    exact⟨by rw [hR.out,HQ.o];rfl,0,rfl⟩
   have HQ:=hid hq;clear hq
   cases hq2:fu s[1]
   ·have K_:=hid hq2
    clear hq2
    go_enter Tryz.func91,Tryz.ntmps91
    go_wp2_with (go_at_call 128;refine (sH _ _).mono ?_;(first | rw [HQ.o] | rw [K_.o]);rintro e w1 ⟨rfl,rfl⟩)
    go_ret
    exact⟨by rw [hR.out,HQ.o,K_.o];rfl,0,rfl⟩
   have K_:=hid hq2;clear hq2
   go_enter Tryz.func91,Tryz.ntmps91
   go_wp2_with (go_at_call 128;refine (sH _ _).mono ?_;(first | rw [HQ.o] | rw [K_.o]);rintro e w1 ⟨rfl,rfl⟩)
   go_quiet (fail)
   go_wp2_with fail
   go_ret
   exact⟨by rw [hR.out,HQ.o,K_.o];rfl,_,rfl⟩
  have hR:=hid (C8 s.data.toList (by simpa using h1))
  have hlen:((s.size:Int)==2)=false:=by rw [beq_eq_false_iff_ne];omega
  go_enter Tryz.func91,Tryz.ntmps91
  go_wp2_with fail
  go_ret
  exact⟨by rw [hR.out];rfl,0,rfl⟩
 obtain⟨b0,b1⟩:=dJ s.data.toList 65535 (by omega)
 have hR:=hid (Lu s.data.toList)
 have hw:aJ s.data.toList 65535%65536=aJ s.data.toList 65535:=by omega
 obtain⟨x,hx⟩:∃x,aJ s.data.toList 65535=x:=⟨_,rfl⟩;rw [hx] at b0 b1 hw;have HX:=hid hx;obtain⟨y,hy⟩:∃y,bI s.data.toList 65535=y:=⟨_,rfl⟩;have HY:=hid hy;clear hx hy
 go_enter Tryz.func91,Tryz.ntmps91
 go_wp2_with (go_at_call 63;refine (nu s 65535 _ hs (by decide) (by decide)).mono ?_;rintro e w1 ⟨hn,rfl⟩;rw [dw,HX.o,HY.o] at hn;subst hn)
 go_ret
 exact⟨by rw [hR.out,HX.o];rfl,0,rfl⟩
theorem BG (l:List UInt8) (m:Int):bI l m=0∨(bI l m=13∧aJ l m=0):=by
 unfold bI aJ
 split
 ·exact .inl rfl
 exact .inr ⟨rfl,rfl⟩
theorem oM (kind:Int) (s:ByteArray) (w:World) (hk:kind=1∨kind=2∨kind=3) (hs:s.size≤maxLen) :
  Calls Tryz.prog 208 #[.int .i64 kind,.string s] w fun e w'=>e=.returned (.int .i64 (iE kind s.data.toList))∧∃n,w'=w.drewN n:=by
 have hs':=hs
 unfold maxLen at hs'
 rcases hk with rfl | rfl | rfl
 ·by_cases h1:s.size=1
  ·have hlt:0 < s.size:=by omega
   have hR:=hid (show iE 1 s.data.toList=if fu (s[0]'hlt)=true then ((s[0]'hlt).toNat:Int) else 0 by rw [QZ s h1,Lr])
   have hlen:((s.size:Int)==1)=true:=by rw [h1];rfl
   have jA:((s.size:Int) != 1)=false:=by rw [h1];rfl
   have hb:=s[0].toNat_lt;clear h1
   cases hq:fu s[0]
   all_goals
    have HQ:=hid hq;clear hq
    go_enter Tryz.func208,Tryz.ntmps208
    go_wp2_with (go_at_call 233;refine (CY _ _).mono ?_;rw [HQ.o];rintro e w1 ⟨rfl,rfl⟩)
    go_ret
    exact⟨by rw [hR.out,HQ.o];rfl,0,rfl⟩
  have hR:=hid (CZ s.data.toList (by simpa using h1))
  have hlen:((s.size:Int)==1)=false:=by rw [beq_eq_false_iff_ne];omega
  have jA:((s.size:Int) != 1)=true:=by rw [bne_iff_ne];omega
  go_enter Tryz.func208,Tryz.ntmps208
  go_wp2_with fail
  go_ret
  exact⟨by rw [hR.out];rfl,0,rfl⟩
 ·by_cases h1:s.size=2
  ·have hlt:0 < s.size:=by omega
   have hlt1:1 < s.size:=by omega
   have hR:=hid (show iE 2 s.data.toList=if fu (s[0]'hlt)=true∧fu (s[1]'hlt1)=true then ((s[0]'hlt).toNat:Int)*(256:Int)+((s[1]'hlt1).toNat:Int) else 0 by rw [Q0 s h1,Ls])
   have hlen:((s.size:Int)==2)=true:=by rw [h1];rfl
   have jA:((s.size:Int) != 2)=false:=by rw [h1];rfl
   have ha:=s[0].toNat_lt;have hb:=s[1].toNat_lt;clear h1
   cases hq:fu s[0]
   all_goals
    have HQ:=hid hq;clear hq
    cases hq2:fu s[1]
    all_goals
     have K_:=hid hq2;clear hq2
     go_enter Tryz.func208,Tryz.ntmps208
     go_wp2_with (go_at_call 233;refine (CY _ _).mono ?_;(first | rw [HQ.o] | rw [K_.o]);rintro e w1 ⟨rfl,rfl⟩)
     try go_quiet (fail)
     try go_wp2_with fail
     go_ret
     first
      | exact⟨by rw [hR.out,HQ.o,K_.o];rfl,0,rfl⟩
      | exact⟨by rw [hR.out,HQ.o,K_.o];simp;omega,_,rfl⟩
  have hR:=hid (C8 s.data.toList (by simpa using h1))
  have hlen:((s.size:Int)==2)=false:=by rw [beq_eq_false_iff_ne];omega
  have jA:((s.size:Int) != 2)=true:=by rw [bne_iff_ne];omega
  go_enter Tryz.func208,Tryz.ntmps208
  go_wp2_with fail
  go_ret
  exact⟨by rw [hR.out];rfl,0,rfl⟩
 have hR:=hid (Lu s.data.toList);have hc:=BG s.data.toList 65535;obtain⟨x,hx⟩:∃x,aJ s.data.toList 65535=x:=⟨_,rfl⟩;have HX:=hid hx;obtain⟨y,hy⟩:∃y,bI s.data.toList 65535=y:=⟨_,rfl⟩;have HY:=hid hy;rw [hx,hy] at hc;clear hx hy
 rcases hc with rfl | ⟨rfl,rfl⟩
 all_goals
  go_enter Tryz.func208,Tryz.ntmps208
  go_wp2_with (go_at_call 103;refine (fH s 65535 _ hs (by decide) (by decide)).mono ?_;rintro e w1 ⟨hn,rfl⟩;rw [dw,HX.o,HY.o] at hn;subst hn)
  go_ret
  exact⟨by rw [hR.out,HX.o];rfl,0,rfl⟩
def kindOk (kind:Int):Bool:=decide (1≤kind∧kind≤3)
theorem kW (kind:Int):(kindOk kind=true∧(kind=1∨kind=2∨kind=3))∨(kindOk kind=false∧(kind < 1∨3 < kind)):=by
 unfold kindOk
 by_cases h:1≤kind∧kind≤3
 ·exact .inl ⟨decide_eq_true h,by omega⟩
 exact .inr ⟨decide_eq_false h,by omega⟩
theorem mJ (kind:Int) (w:World) :
  Calls Tryz.prog 89 #[.int .i64 kind] w fun e w'=>e=.returned (.bool (kindOk kind))∧w=w':=by
 rcases kW kind with ⟨h,hk⟩ | ⟨h,hk⟩
 ·rw [h]
  rcases hk with rfl | rfl | rfl
  all_goals
   go_enter Tryz.func89,Tryz.ntmps89
   go_wp2
   go_ret
   exact⟨rfl,rfl⟩
 rw [h]
 rcases hk with hk | hk
 ·have h1:¬1≤kind:=by omega
  go_enter Tryz.func89,Tryz.ntmps89
  go_wp2
  go_ret
  exact⟨rfl,rfl⟩
 have h1:1≤kind:=by omega
 have h2:¬kind≤3:=by omega
 go_enter Tryz.func89,Tryz.ntmps89
 go_wp2
 go_ret
 exact⟨rfl,rfl⟩
def jv (kind:Int) (l:List UInt8):Int×Int:=if kindOk kind=true then (if iE kind l=0 then (0,31) else (iE kind l,0)) else (0,30)
theorem BH (kind:Int) (l:List UInt8):0≤(jv kind l).1∧(jv kind l).1≤65535:=by
 have:=sG kind l
 unfold jv
 split
 ·split
  ·simp
  exact this
 simp
theorem RS (kind:Int) (s:ByteArray) (w:World) (hs:s.size≤maxLen) :
  Calls Tryz.prog 149 #[.int .i64 kind,.string s] w fun e w'=>e=.returned (.tuple #[.int .u16 (jv kind s.data.toList).1,.int .i64 (jv kind s.data.toList).2])∧∃n,w'=w.drewN n:=by
 rcases kW kind with ⟨h,hk⟩ | ⟨h,hk⟩
 ·have HK:=hid h
  have HKK:=hid hk;clear h hk;obtain⟨b0,b1⟩:=sG kind s.data.toList
  by_cases h0:iE kind s.data.toList=0
  ·have hR:=hid (show jv kind s.data.toList=(0,31) by rw [jv,if_pos HK.o,if_pos h0])
   have H0:=hid h0;clear h0 b0 b1
   go_enter Tryz.func149,Tryz.ntmps149
   go_wp2_with (first
    | (go_at_call 89;refine (mJ _ _).mono ?_;rw [HK.o];rintro e w1 ⟨rfl,rfl⟩)
    | (go_at_call 91;refine (ql kind s _ HKK.o hs).mono ?_;rw [H0.o];rintro e w1 ⟨rfl,n,rfl⟩))
   go_ret2
   exact⟨by rw [hR.out];rfl,_,rfl⟩
  have hR:=hid (show jv kind s.data.toList=(iE kind s.data.toList,0) by rw [jv,if_pos HK.o,if_neg h0])
  obtain⟨x,hx⟩:∃x,iE kind s.data.toList=x:=⟨_,rfl⟩;rw [hx] at h0 b0 b1;have HX:=hid hx
  have hne:(x==0)=false:=by rw [beq_eq_false_iff_ne];exact h0
  clear hx h0
  go_enter Tryz.func149,Tryz.ntmps149
  go_wp2_with (first
   | (go_at_call 89;refine (mJ _ _).mono ?_;rw [HK.o];rintro e w1 ⟨rfl,rfl⟩)
   | (go_at_call 91;refine (ql kind s _ HKK.o hs).mono ?_;rw [HX.o];rintro e w1 ⟨rfl,n,rfl⟩))
  go_ret2
  exact⟨by rw [hR.out,HX.o];rfl,_,rfl⟩
 have HK:=hid h
 have hR:=hid (show jv kind s.data.toList=(0,30) by rw [jv,if_neg (by rw [h];decide)])
 clear h hk
 go_enter Tryz.func149,Tryz.ntmps149
 go_wp2_with (go_at_call 89;refine (mJ _ _).mono ?_;rw [HK.o];rintro e w1 ⟨rfl,rfl⟩)
 go_ret2
 exact⟨by rw [hR.out];rfl,0,rfl⟩
theorem O5 (kind:Int) (s:ByteArray) (w:World) (hs:s.size≤maxLen) :
  Calls Tryz.prog 178 #[.int .i64 kind,.string s] w fun e w'=>e=.returned (.tuple #[.int .i64 (jv kind s.data.toList).1,.int .i64 (jv kind s.data.toList).2])∧∃n,w'=w.drewN n:=by
 rcases kW kind with ⟨h,hk⟩ | ⟨h,hk⟩
 ·have HK:=hid h
  have HKK:=hid hk
  have k1:¬kind < 1:=by omega
  have k2:¬3 < kind:=by omega
  clear h hk;obtain⟨b0,b1⟩:=sG kind s.data.toList
  by_cases h0:iE kind s.data.toList=0
  ·have hR:=hid (show jv kind s.data.toList=(0,31) by rw [jv,if_pos HK.o,if_pos h0])
   have H0:=hid h0;clear h0 b0 b1
   go_enter Tryz.func178,Tryz.ntmps178
   go_wp2_with (go_at_call 208;refine (oM kind s _ HKK.o hs).mono ?_;rw [H0.o];rintro e w1 ⟨rfl,n,rfl⟩)
   go_ret2
   exact⟨by rw [hR.out];rfl,_,rfl⟩
  have hR:=hid (show jv kind s.data.toList=(iE kind s.data.toList,0) by rw [jv,if_pos HK.o,if_neg h0])
  obtain⟨x,hx⟩:∃x,iE kind s.data.toList=x:=⟨_,rfl⟩;rw [hx] at h0 b0 b1;have HX:=hid hx
  have hne:(x==0)=false:=by rw [beq_eq_false_iff_ne];exact h0
  clear hx h0
  go_enter Tryz.func178,Tryz.ntmps178
  go_wp2_with (go_at_call 208;refine (oM kind s _ HKK.o hs).mono ?_;rw [HX.o];rintro e w1 ⟨rfl,n,rfl⟩)
  go_ret2
  exact⟨by rw [hR.out,HX.o];rfl,_,rfl⟩
 have hR:=hid (show jv kind s.data.toList=(0,30) by rw [jv,if_neg (by rw [h];decide)])
 rcases hk with hk | hk
 ·go_enter Tryz.func178,Tryz.ntmps178
  go_wp2_with fail
  go_ret2
  exact⟨by rw [hR.out];rfl,0,rfl⟩
 have k1:¬kind < 1:=by omega
 go_enter Tryz.func178,Tryz.ntmps178
 go_wp2_with fail
 go_ret2
 exact⟨by rw [hR.out];rfl,0,rfl⟩
def iL (k:Nat) (l:List UInt8):List (List UInt8):=chop k l.length l
theorem zO (k:Nat):iL k []=[]:=rfl
theorem Fz (k:Nat) (l:List UInt8) (hk:0 < k) (h:l≠[]):iL k l=l.take k::iL k (l.drop k):=by
 have hp:=List.length_pos_iff.2 h
 unfold iL
 rw [Jj k l.length l h (Nat.le_refl _),zN k hk (l.length - 1) (l.drop k).length _ (by simp;omega) (Nat.le_refl _)]
theorem zP (k:Nat) (l:List UInt8):(iL k l).length≤l.length:=wV _ _ _
theorem C9 (c:Nat) (hc:0 < c) (s:ByteArray) (k:Nat) (hk:k < s.size) (e:Nat) (he:e=min (k+c) s.size) :
  iL c (s.data.toList.drop k)=(s.extract k e).data.toList::iL c (s.data.toList.drop (k+c)):=by
 have hne:s.data.toList.drop k≠[]:=by
  intro h
  have h1:=congrArg List.length h;simp at h1
  omega
 rw [Fz c _ hc hne,List.drop_drop,bQ,iD]
 congr 1
 rw [he]
 by_cases h:k+c≤s.size
 ·rw [Nat.min_eq_left h];congr 1;omega
 rw [Nat.min_eq_right (by omega),List.take_of_length_le (by simp;omega),List.take_of_length_le (by simp)]
theorem wX (s:ByteArray) (k:Nat) (h:¬k < s.size):s.data.toList.drop k=[]:=List.drop_of_length_le (by simp;omega)
def bU (kind:Int) (s:ByteArray):List ByteArray:=(kV kind s.data.toList).map mkS
theorem oO (kind:Int) (s:ByteArray):(bU kind s).length=(kV kind s.data.toList).length:=by unfold bU;simp
theorem wh (ss:List ByteArray) (ls:List (List UInt8)) (h:ss.map (·.data.toList)=ls):ss=ls.map mkS:=by
 subst h
 rw [List.map_map]
 exact (List.map_id ss).symm
theorem uU (c:Nat) (hc:c=1∨c=2) (l:List UInt8):kV (c:Int) l=iL c l:=by
 rcases hc with rfl | rfl<;>rfl
theorem Jk (kind:Int) (s:ByteArray) (m:Int) (w:World) (hk:kind=1∨kind=2∨kind=3) (hs:s.size≤4194304) (hm:w.cell? ⟨0,0,none⟩=some (.int .i64 m)) :
  Calls Tryz.prog 90 #[.int .i64 kind,.string s] w fun e w'=>∃v',e=.returned v'∧Rd w' 1 v' (bU kind s).length (bn (bU kind s))∧Below w.heap.size w w':=by
 obtain⟨i0,hi,hz0,hz1,hz2⟩:=info_parts jU
 have hk':kind=3∨∃c:Nat,(c=1∨c=2)∧kind=(c:Int):=by
  rcases hk with rfl | rfl | rfl
  ·exact .inr ⟨1,.inl rfl,rfl⟩
  ·exact .inr ⟨2,.inr rfl,rfl⟩
  exact .inl rfl
 clear hk
 rcases hk' with rfl | ⟨c,hc,rfl⟩
 ·have hR:=hid (show (Lib.splitB ⟨#[44]⟩ 0 (Lib.countB s ⟨#[44]⟩) s)=bU 3 s from wh _ _ (CX s))
  have hl:=hid (Lib.splitB_all ⟨#[44]⟩ (by decide) 0 _ s rfl)
  go_enter Tryz.func90,Tryz.ntmps90
  go_wp2_with (go_at_call 127;refine (Tryz.strings_Split s ⟨#[44]⟩ m _ (by omega) hm (by decide)).mono ?_;rintro e w1 ⟨rfl,rfl⟩)
  go_ret
  have h2:=hl.out;rw [hR.out] at h2
  refine⟨_,rfl,?_,(Below.refl _ _).alloc (Nat.le_refl _) _⟩
  rw [←h2,hR.out]
  exact Rd.aN (CR w 9 1 (bU 3 s).length ((bU 3 s).map Value.string).toArray (by simp) (by
   rw [oO]
   have:=ny 3 s.data.toList
   rw [ak] at this
   unfold maxLen;omega))
 have hT:=hid (show bU c s=(iL c s.data.toList).map mkS by unfold bU;rw [uU c hc])
 have hcl:=zP c s.data.toList;rw [ak] at hcl
 have hcp:0 < c∧c≤2∧((c:Int)==3)=false:=by rcases hc with rfl | rfl<;>decide
 obtain⟨hc0,hc2,hc3⟩:=hcp;clear hc
 generalize hN:(iL c s.data.toList).length=N at *
 have HN:=hid hN;clear hN
 go_enter Tryz.func90,Tryz.ntmps90
 go_wp2
 go_loopw [5,6] (fun o i wr=>∃(k:Nat) (acc:List ByteArray),k≤s.size+2∧acc.length≤N∧i=.int .i64 k∧Hid (acc.map (·.data.toList)++iL c (s.data.toList.drop k)=iL c s.data.toList)∧Hid (Own w wr 9 1 o acc.length (bn acc))) (fun _ i _=>s.size+2 - (intOf i).toNat)
 case atStart=>exact⟨0,[],by omega,Nat.zero_le _,rfl,by show _=_;simp,Own.fP _ _ _⟩
 case round =>
 obtain⟨k,acc,hkk,hal,rfl,HA,HO⟩:=hrel
 have hsz:=HO.o.size
 by_cases hlt:k < s.size
 ·have hst:∀e,e=min (k+c) s.size→acc.length+1≤N∧(acc++[s.extract k e]).map (·.data.toList)++iL c (s.data.toList.drop (k+c))=iL c s.data.toList:=by
   intro e he
   have h1:=C9 c hc0 s k hlt e he;have h2:=HA.o;rw [h1] at h2
   refine⟨?_,by rw [←h2];simp⟩
   rw [←HN.o,←h2];simp
  by_cases hkc:k+c≤s.size
  ·obtain⟨s1,s2⟩:=hst (k+c) (Nat.min_eq_left hkc).symm
   have S2:=hid s2;clear hst s2
   have hmin:min ((k:Int)+c) (s.size:Int)=(k:Int)+c:=by omega
   go_wp2_with (at_builtin;refine aB rfl _ _ 110 rfl w.heap.size 9 i0 (.string ByteArray.empty) 16 Tryz.underlying110 hi hz0 hz1 hz2 rfl _ acc.length _ rfl HO.o.own _ rfl rfl (by unfold maxLen;omega) (by omega) hsz ?_;intro gg cap w5 hown hg5;have tZ:=hid (HO.o.push hown hg5);clear hown hg5)
   go_roundw
   case rel=>exact⟨k+c,acc++[s.extract k (k+c)],by omega,by simpa using s1,by go_num,S2.out,hid (by simpa [bn] using tZ.o)⟩
   case measure=>simp [intOf];omega
  obtain⟨s1,s2⟩:=hst s.size (Nat.min_eq_right (by omega)).symm
  have S2:=hid s2;clear hst s2
  have hmin:min ((k:Int)+c) (s.size:Int)=(s.size:Int):=by omega
  go_wp2_with (at_builtin;refine aB rfl _ _ 110 rfl w.heap.size 9 i0 (.string ByteArray.empty) 16 Tryz.underlying110 hi hz0 hz1 hz2 rfl _ acc.length _ rfl HO.o.own _ rfl rfl (by unfold maxLen;omega) (by omega) hsz ?_;intro gg cap w5 hown hg5;have tZ:=hid (HO.o.push hown hg5);clear hown hg5)
  go_roundw
  case rel=>exact⟨k+c,acc++[s.extract k s.size],by omega,by simpa using s1,by go_num,S2.out,hid (by simpa [bn] using tZ.o)⟩
  case measure=>simp [intOf];omega
 have hfin:=hid (show acc=bU c s by
  have h2:=HA.o
  rw [wX s k hlt,zO,List.append_nil] at h2
  rw [hT.out];exact wh _ _ h2)
 go_wp2
 go_ret
 refine⟨_,rfl,?_,HO.o.below⟩
 rw [←hfin.out]
 exact Rd.aN HO.o.own
theorem Lv (s:ByteArray) (f k:Nat) (hf:f≤k) (hk:k < s.size):(s.extract f (k+1)).data.toList=(s.extract f k).data.toList++[s[k]]:=by
 rw [bQ,bQ,iD,iD,show k+1 - f=(k - f)+1 by omega,List.take_succ_eq_append_getElem (by simp;omega)]
 congr 2
 rw [List.getElem_drop]
 have e:f+(k - f)=k:=by omega
 simp only [e]
 rfl
theorem ext_nil (s:ByteArray) (k:Nat):(s.extract k k).data.toList=[]:=by rw [bQ,iD];simp
def iZ (s:ByteArray) (k f:Nat) (acc:List ByteArray):Prop :=
 (k≤s.size∧f≤k∧acc.map (·.data.toList)++cgo (s.extract f k).data.toList (s.data.toList.drop k)=cgo [] s.data.toList)∨(k=s.size+1∧acc.map (·.data.toList)=cgo [] s.data.toList)
theorem iZ.start (s:ByteArray):iZ s 0 0 []:=.inl ⟨Nat.zero_le _,Nat.le_refl _,by rw [ext_nil];simp⟩
theorem iZ.end_ {s:ByteArray} {f:Nat} {acc:List ByteArray} (h:iZ s s.size f acc):iZ s (s.size+1) (s.size+1) (acc++[s.extract f s.size]):=by
 rcases h with ⟨_,_,h⟩ | ⟨h,_⟩
 ·rw [wX s s.size (by omega),cgo] at h
  exact .inr ⟨rfl,by rw [←h];simp⟩
 omega
theorem iZ.hit {s:ByteArray} {k f:Nat} {acc:List ByteArray} (h:iZ s k f acc) (hk:k < s.size) (O6:s[k].toNat=44):iZ s (k+1) (k+1) (acc++[s.extract f k]):=by
 rcases h with ⟨_,_,h⟩ | ⟨h,_⟩
 ·rw [drop_cons s k hk,cgo,if_pos O6] at h
  exact .inl ⟨by omega,Nat.le_refl _,by rw [←h,ext_nil];simp⟩
 omega
theorem iZ.pass {s:ByteArray} {k f:Nat} {acc:List ByteArray} (h:iZ s k f acc) (hk:k < s.size) (O6:s[k].toNat≠44):iZ s (k+1) f acc:=by
 rcases h with ⟨_,hf,h⟩ | ⟨h,_⟩
 ·rw [drop_cons s k hk,cgo,if_neg O6] at h
  exact .inl ⟨by omega,by omega,by rw [←h,Lv s f k hf hk]⟩
 omega
theorem iZ.le {s:ByteArray} {k f:Nat} {acc:List ByteArray} (h:iZ s k f acc) (hk:k≤s.size):f≤k:=by
 rcases h with ⟨_,hf,_⟩ | ⟨h,_⟩<;>omega
theorem iZ.done {s:ByteArray} {k f:Nat} {acc:List ByteArray} (h:iZ s k f acc) (hk:¬k≤s.size):acc.map (·.data.toList)=cgo [] s.data.toList:=by
 rcases h with ⟨h,_⟩ | ⟨_,h⟩
 ·omega
 exact h
theorem iZ.len {s:ByteArray} {k f:Nat} {acc:List ByteArray} (h:iZ s k f acc):acc.length≤s.size+1:=by
 have hl:=Ih s.data.toList []
 rw [ak] at hl
 rcases h with ⟨_,_,h⟩ | ⟨_,h⟩
 ·have:=congrArg List.length h
  rw [List.length_append,List.length_map] at this
  omega
 have:=congrArg List.length h
 rw [List.length_map] at this
 omega
theorem Lx (kind:Int) (s:ByteArray) (w:World) (hk:kind=1∨kind=2∨kind=3) (hs:s.size≤4194304) :
  Calls Tryz.prog 211 #[.int .i64 kind,.string s] w fun e w'=>∃v',e=.returned v'∧Rd w' 1 v' (bU kind s).length (bn (bU kind s))∧Below w.heap.size w w':=by
 obtain⟨i0,hi,hz0,hz1,hz2⟩:=info_parts jU
 have hk':kind=3∨∃c:Nat,(c=1∨c=2)∧kind=(c:Int):=by
  rcases hk with rfl | rfl | rfl
  ·exact .inr ⟨1,.inl rfl,rfl⟩
  ·exact .inr ⟨2,.inr rfl,rfl⟩
  exact .inl rfl
 clear hk
 rcases hk' with rfl | ⟨c,hc,rfl⟩
 ·have hT:=hid (show bU 3 s=(cgo [] s.data.toList).map mkS from rfl)
  go_enter Tryz.func211,Tryz.ntmps211
  go_wp2
  go_loopw [5,6,7] (fun o fr i wr=>∃(k f:Nat) (acc:List ByteArray),k≤s.size+1∧acc.length≤s.size+1∧fr=.int .i64 f∧i=.int .i64 k∧Hid (iZ s k f acc)∧Hid (Own w wr 9 1 o acc.length (bn acc))) (fun _ _ i _=>s.size+1 - (intOf i).toNat)
  case atStart=>exact⟨0,0,[],Nat.zero_le _,Nat.zero_le _,rfl,rfl,iZ.start s,Own.fP _ _ _⟩
  case round =>
  obtain⟨k,f,acc,hkk,hal,rfl,rfl,HA,HO⟩:=hrel
  have hsz:=HO.o.size
  by_cases hle:k≤s.size
  ·have UU:=HA.o.le hle
   have hle':(k:Int)≤(s.size:Int):=by omega
   by_cases hlt:k < s.size
   ·have hne:((k:Int)==(s.size:Int))=false:=by rw [beq_eq_false_iff_ne];omega
    by_cases O6:s[k].toNat=44
    ·have S2:=hid (HA.o.hit hlt O6)
     have hlen:=S2.out.len
     have hq:((s[k].toNat:Int)==44)=true:=by rw [O6];rfl
     clear O6
     go_wp2_with (at_builtin;refine aB rfl _ _ 110 rfl w.heap.size 9 i0 (.string ByteArray.empty) 16 Tryz.underlying110 hi hz0 hz1 hz2 rfl _ acc.length _ rfl HO.o.own _ rfl rfl (by unfold maxLen;omega) (by omega) hsz ?_;intro gg cap w5 hown hg5;have tZ:=hid (HO.o.push hown hg5);clear hown hg5)
     go_roundw
     case rel=>exact⟨k+1,k+1,acc++[s.extract f k],by omega,hlen,by go_num,by go_num,S2.out,hid (by simpa [bn] using tZ.o)⟩
     case measure=>simp [intOf];omega
    have S2:=hid (HA.o.pass hlt O6)
    have hq:((s[k].toNat:Int)==44)=false:=by rw [beq_eq_false_iff_ne];omega
    clear O6
    go_wp2
    go_roundw
    case rel=>exact⟨k+1,f,acc,by omega,hal,rfl,by go_num,S2.out,HO.o⟩
    case measure=>simp [intOf];omega
   obtain rfl:k=s.size:=by omega
   have S2:=hid (HA.o.end_);have hlen:=S2.out.len
   go_wp2_with (at_builtin;refine aB rfl _ _ 110 rfl w.heap.size 9 i0 (.string ByteArray.empty) 16 Tryz.underlying110 hi hz0 hz1 hz2 rfl _ acc.length _ rfl HO.o.own _ rfl rfl (by unfold maxLen;omega) (by omega) hsz ?_;intro gg cap w5 hown hg5;have tZ:=hid (HO.o.push hown hg5);clear hown hg5)
   go_roundw
   case rel=>exact⟨s.size+1,s.size+1,acc++[s.extract f s.size],by omega,hlen,by go_num,by go_num,S2.out,hid (by simpa [bn] using tZ.o)⟩
   case measure=>simp [intOf]
  have hfin:=hid (show acc=bU 3 s by rw [hT.out];exact wh _ _ (HA.o.done hle))
  have hle':¬(k:Int)≤(s.size:Int):=by omega
  go_wp2
  go_ret
  refine⟨_,rfl,?_,HO.o.below⟩
  rw [←hfin.out]
  exact Rd.aN HO.o.own
 have hT:=hid (show bU c s=(iL c s.data.toList).map mkS by unfold bU;rw [uU c hc])
 have hcl:=zP c s.data.toList;rw [ak] at hcl
 have hcp:0 < c∧c≤2∧((c:Int)==3)=false:=by rcases hc with rfl | rfl<;>decide
 obtain⟨hc0,hc2,hc3⟩:=hcp;clear hc
 generalize hN:(iL c s.data.toList).length=N at *
 have HN:=hid hN;clear hN
 go_enter Tryz.func211,Tryz.ntmps211
 go_wp2
 go_loopw [5,8,9] (fun o i _ wr=>∃(k:Nat) (acc:List ByteArray),k≤s.size+2∧acc.length≤N∧i=.int .i64 k∧Hid (acc.map (·.data.toList)++iL c (s.data.toList.drop k)=iL c s.data.toList)∧Hid (Own w wr 9 1 o acc.length (bn acc))) (fun _ i _ _=>s.size+2 - (intOf i).toNat)
 case atStart=>exact⟨0,[],by omega,Nat.zero_le _,rfl,by show _=_;simp,Own.fP _ _ _⟩
 case round =>
 obtain⟨k,acc,hkk,hal,rfl,HA,HO⟩:=hrel
 have hsz:=HO.o.size
 by_cases hlt:k < s.size
 ·have hst:∀e,e=min (k+c) s.size→acc.length+1≤N∧(acc++[s.extract k e]).map (·.data.toList)++iL c (s.data.toList.drop (k+c))=iL c s.data.toList:=by
   intro e he
   have h1:=C9 c hc0 s k hlt e he;have h2:=HA.o;rw [h1] at h2
   refine⟨?_,by rw [←h2];simp⟩
   rw [←HN.o,←h2];simp
  by_cases hkc:k+c≤s.size
  ·obtain⟨s1,s2⟩:=hst (k+c) (Nat.min_eq_left hkc).symm
   have S2:=hid s2;clear hst s2
   have hnb:¬(s.size:Int) < (k:Int)+c:=by omega
   go_wp2_with (at_builtin;refine aB rfl _ _ 110 rfl w.heap.size 9 i0 (.string ByteArray.empty) 16 Tryz.underlying110 hi hz0 hz1 hz2 rfl _ acc.length _ rfl HO.o.own _ rfl rfl (by unfold maxLen;omega) (by omega) hsz ?_;intro gg cap w5 hown hg5;have tZ:=hid (HO.o.push hown hg5);clear hown hg5)
   go_roundw
   case rel=>exact⟨k+c,acc++[s.extract k (k+c)],by omega,by simpa using s1,by go_num,S2.out,hid (by simpa [bn] using tZ.o)⟩
   case measure=>simp [intOf];omega
  obtain⟨s1,s2⟩:=hst s.size (Nat.min_eq_right (by omega)).symm
  have S2:=hid s2;clear hst s2
  have hnb:(s.size:Int) < (k:Int)+c:=by omega
  go_wp2_with (at_builtin;refine aB rfl _ _ 110 rfl w.heap.size 9 i0 (.string ByteArray.empty) 16 Tryz.underlying110 hi hz0 hz1 hz2 rfl _ acc.length _ rfl HO.o.own _ rfl rfl (by unfold maxLen;omega) (by omega) hsz ?_;intro gg cap w5 hown hg5;have tZ:=hid (HO.o.push hown hg5);clear hown hg5)
  go_roundw
  case rel=>exact⟨k+c,acc++[s.extract k s.size],by omega,by simpa using s1,by go_num,S2.out,hid (by simpa [bn] using tZ.o)⟩
  case measure=>simp [intOf];omega
 have hfin:=hid (show acc=bU c s by
  have h2:=HA.o
  rw [wX s k hlt,zO,List.append_nil] at h2
  rw [hT.out];exact wh _ _ h2)
 go_wp2
 go_ret
 refine⟨_,rfl,?_,HO.o.below⟩
 rw [←hfin.out]
 exact Rd.aN HO.o.own
theorem uq (x:Int) (w:World):Calls Tryz.prog 202 #[.int .u16 x] w fun e w'=>e=.returned (.bool false)∧w'=w:=by
 go_enter Tryz.func202,Tryz.ntmps202
 go_wp2
 go_ret
 exact⟨by simp,rfl⟩
theorem ay (x y:Int) (w:World):Calls Tryz.prog 173 #[.int .u16 x,.int .u16 y] w fun e w'=>e=.returned (.bool (Sort.ltInt x y))∧w'=w:=by
 go_enter Tryz.func173,Tryz.ntmps173
 go_wp2_with (go_at_call 202;refine (uq _ _).mono ?_;rintro e w' ⟨rfl,rfl⟩)
 go_ret
 exact⟨rfl,rfl⟩
theorem oP (x:Int) (w:World) (h0:0≤x) (h1:x≤18446744073709551615) :
 Calls Tryz.prog 126 #[.int .u64 x] w fun e w'=>e=.returned (.int .i64 (Lib.bitLen x.toNat))∧w'=w:=Tryz.bits_Len x w h0 h1
def intOf:Value→Int | .int _ q=>q | _=>0
section
variable {α:Type} [Inhabited α] (lt:α→α→Bool)
theorem insInner_go (a j:Nat) (d:Array α) (hj:a < j) (hl:lt d[j]! d[j - 1]! = true):insInner lt a j d=insInner lt a (j - 1) (swp d j (j - 1)):=by
 obtain⟨k,rfl⟩:∃k,j=k+1:=⟨j - 1,by omega⟩
 rw [insInner];simp only [Nat.add_sub_cancel] at hl ⊢;simp [hj,hl]
theorem insInner_stop (a j:Nat) (d:Array α) (h:j≤a∨lt d[j]! d[j - 1]! = false):insInner lt a j d=d:=by
 cases j with
 | zero=>rw [insInner]
 | succ k =>
  rw [insInner]
  simp only [Nat.add_sub_cancel] at h
  rcases h with h | h
  ·simp [show ¬k+1 > a by omega]
  simp [h]
theorem insOuter_go (a b i:Nat) (d:Array α) (h:i < b):insOuter lt a b i d=insOuter lt a b (i+1) (insInner lt a i d):=by rw [insOuter,if_pos h]
theorem insOuter_stop (a b i:Nat) (d:Array α) (h:¬i < b):insOuter lt a b i d=d:=by rw [insOuter,if_neg h]
end
section
variable {α:Type} [Inhabited α] (enc:α→Value)
theorem putRow_drewN (w:World) (m q blk off:Nat) (d:Array α):(putRow enc (Sort.ahead w m) blk off d).drewN q=putRow enc (Sort.ahead w (m+q)) blk off d:=by
 show Sort.ahead (putRow enc (Sort.ahead w m) blk off d) q=_
 rw [putRow_ahead enc w m,ahead_ahead,←putRow_ahead]
theorem swap_worldA (w:World) (m q blk off:Nat) (d:Array α) (j k:Nat) (hj:j < d.size) (hk:k < d.size) :
  (((putRow enc (Sort.ahead w m) blk off d).drewN q).setCell ⟨blk,off+j,none⟩ (enc d[k]!)).setCell ⟨blk,off+k,none⟩ (enc d[j]!)=putRow enc (Sort.ahead w (m+q)) blk off (swp d j k):=by
 rw [putRow_drewN]
 exact putRow_swp enc _ blk off d j k hj hk
end
theorem oQ (blk off cap a b:Nat) (d:Array Int) (w:World) (hH:Holds (Value.int .u16) w blk off d) (hab:a≤b) (hb:b≤d.size) (hsz:d.size < 4611686018427387904) :
  Calls Tryz.prog 167 #[.slice (some ⟨blk,off,none⟩) d.size cap,.int .i64 a,.int .i64 b] w fun e w' =>
   e=.returned (.tuple #[])∧∃n,w'=putRow (Value.int .u16) (Sort.ahead w n) blk off (Sort.insertionSort ltInt d a b):=by
 go_enter Tryz.func167,Tryz.ntmps167
 go_wp2
 go_loopw [6] (fun vi wr=>∃(i n:Nat) (dk:Array Int),vi=.int .i64 i∧a < i∧i≤b+1∧dk.size=d.size∧wr=putRow (Value.int .u16) (Sort.ahead w n) blk off dk ∧
  insOuter ltInt a b i dk=insOuter ltInt a b (a+1) d) (fun vi _=>b+1 - (intOf vi).toNat)
 case atStart=>exact⟨a+1,0,d,by go_num,by omega,by omega,rfl,(putRow_self _ _ _ _ _ hH).symm,rfl⟩
 case round =>
 obtain⟨i,n,dk,rfl,hai,hib,hsk,hwr,hO⟩:=hrel
 have HO:Hid (insOuter ltInt a b i dk=insOuter ltInt a b (a+1) d):=hO;clear hO
 go_wp2
 ·
  go_loopw [7] (fun vj wr2=>∃(j m:Nat) (dj:Array Int),vj=.int .i64 j∧a≤j∧j≤i∧dj.size=d.size∧wr2=putRow (Value.int .u16) (Sort.ahead w m) blk off dj ∧
   insInner ltInt a j dj=insInner ltInt a i dk) (fun vj _=>(intOf vj).toNat)
  case atStart=>exact⟨i,n,dk,rfl,by omega,Nat.le_refl _,hsk,rfl,rfl⟩
  case round =>
  obtain⟨j,m,dj,rfl,haj,hji,hsj,hw2,hI⟩:=hrel
  have hlt:i < b:=by assumption
  obtain⟨G,hG⟩:∃G:Nat→Int,∀t,G t=dj[t]!:=⟨fun t=>dj[t]!,fun _=>rfl⟩
  have hcw:∀t,t < d.size→wr.cell? ⟨blk,off+t,none⟩=some (.int .u16 (G t)):=fun t ht=>by
   rw [hw2,hG];exact cell?_putRow _ _ _ _ d dj (holds_ahead _ _ _ _ _ _ hH) hsj t (by omega)
  have hfw:∀t,t < d.size→wr.frozen? ⟨blk,off+t,none⟩=false:=fun t ht=>by
   rw [hw2,frozen?_putRow];exact ((holds_ahead _ _ m _ _ _ hH) t ht).2
  have HW:Hid (wr=putRow (Value.int .u16) (Sort.ahead w m) blk off dj):=hw2;have HG:Hid (∀t,G t=dj[t]!):=hG;have HI:Hid (insInner ltInt a j dj=insInner ltInt a i dk):=hI;clear hw2 hG hI hH
  have out:(j≤a∨ltInt dj[j]! dj[j - 1]! = false)→∀q,∃i' n' dk',Value.int .i64 ((i:Int)+1)=.int .i64 (i':Nat)∧a < i'∧i'≤b+1∧dk'.size=d.size ∧
    wr.drewN q=putRow (Value.int .u16) (Sort.ahead w n') blk off dk'∧insOuter ltInt a b i' dk'=insOuter ltInt a b (a+1) d:=fun hs q =>
   ⟨i+1,m+q,dj,by go_num,by omega,by omega,hsj,by rw [HW.o];exact putRow_drewN _ _ _ _ _ _ _,
    by rw [←HO.o,insOuter_go _ _ _ _ _ hlt,←HI.o,insInner_stop _ _ _ _ hs]⟩
  have OUT:Hid _:=out;clear out
  go_wp2
  by_cases hja:a < j
  ·go_quiet (first | (go_at_call 173;refine Calls.quiet_of_same (ay _ _ _)))
   go_wp2
   ·
    have hl:ltInt (G j) (G (j - 1))=true:=by assumption
    go_region
    all_goals go_wp2
    go_roundw
    case rel =>
     refine⟨j - 1,m+(nq+1),swp dj j (j - 1),by congr 1;omega,by omega,by omega,by rw [size_swp];exact hsj,?_,?_⟩
     ·rw [HW.o,HG.o,HG.o]
      exact swap_worldA _ w m (nq+1) blk off dj j (j - 1) (by omega) (by omega)
     rw [←HI.o,insInner_go ltInt a j dj hja (by rw [←HG.o,←HG.o];exact hl)]
    case measure=>simp [intOf];omega
   ·
    have hl:ltInt (G j) (G (j - 1))=false:=by assumption
    go_roundw
    case rel=>exact OUT.out (Or.inr (by rw [←HG.o,←HG.o];exact hl)) nq
    case measure=>simp [intOf];omega
  go_quiet (first | (go_at_call 173;refine Calls.quiet_of_same (ay _ _ _)))
  go_wp2
  go_roundw
  case rel=>exact OUT.out (Or.inl (by omega)) nq
  case measure=>simp [intOf];omega
 ·
  have hge:¬i < b:=by assumption
  go_end0
  exact⟨rfl,n,by unfold Sort.insertionSort;rw [←HO.o,insOuter_stop _ _ _ _ _ hge]⟩
theorem bitLen_eq (x:Nat) (h:x < 2 ^ 64):Lib.bitLen x=bitsLen x:=by
 induction x using Nat.strongRecOn with
 | _ x ih =>
  by_cases h0:x=0
  ·subst h0;rfl
  rw [Lib.bitLen_half x h0 h,ih (x / 2) (by omega) (by omega)]
  unfold bitsLen;rw [if_neg h0,Nat.log2_def x]
  by_cases h2:2≤x
  ·rw [if_pos h2,if_neg (by omega)];omega
  obtain rfl:x=1:=by omega
  simp
def pdqWalk_int:Prop:=∀(blk off cap a b limit:Nat) (d:Array Int) (w:World),Holds (Value.int .u16) w blk off d→blk < w.heap.size→a≤b→b≤d.size→d.size < 4611686018427387904→limit < 4611686018427387904→Below ltInt a b d →
 Calls Tryz.prog 129 #[.slice (some ⟨blk,off,none⟩) d.size cap,.int .i64 a,.int .i64 b,.int .i64 limit] w fun e w' =>
  e=.returned (.tuple #[])∧∃n os,w'=grow (putRow (Value.int .u16) (Sort.ahead w n) blk off (Sort.pdq ltInt d a b limit true true)) os
theorem C_ (hpdq:pdqWalk_int) (blk off cap:Nat) (d:Array Int) (w:World) (hH:Holds (Value.int .u16) w blk off d) (hblk:blk < w.heap.size) (hsz:d.size < 4611686018427387904) :
  Calls Tryz.prog 92 #[.slice (some ⟨blk,off,none⟩) d.size cap] w fun e w'=>e=.returned (.tuple #[])∧∃n os,w'=grow (putRow (Value.int .u16) (Sort.ahead w n) blk off (Sort.sort ltInt d)) os:=by
 have HH:Hid (Holds (Value.int .u16) w blk off d):=hH
 clear hH
 have hLen:∀w,Calls Tryz.prog 126 #[.int .u64 (d.size:Int)] w fun e w'=>e=.returned (.int .i64 (bitsLen d.size:Nat))∧w'=w:=fun w=>by
  have h:=oP (d.size:Int) w (by omega) (by omega)
  rwa [Int.toNat_natCast,bitLen_eq _ (by omega)] at h
 have hk:bitsLen d.size≤62:=(bitsLen_le_iff d.size 62).2 (by omega)
 go_enter Tryz.func92,Tryz.ntmps92
 go_wp2_with (first
  | (go_at_call 126;refine (hLen _).mono ?_;rintro e w' ⟨rfl,rfl⟩)
  | (go_at_call 129;refine (hpdq blk off cap 0 d.size (bitsLen d.size) d _ (by exact HH.o) (by exact hblk) (Nat.zero_le _) (Nat.le_refl _) hsz (by omega) (Or.inl rfl)).mono ?_;rintro e w' ⟨rfl,n,os,rfl⟩))
 go_end0
 exact⟨rfl,n,os,rfl⟩
theorem l8 (p:Option Addr) (cap:Nat) (w:World) :
  Calls Tryz.prog 167 #[.slice p 0 cap,.int .i64 0,.int .i64 0] w fun e w'=>e=.returned (.tuple #[])∧w'=w:=by
 go_enter Tryz.func167,Tryz.ntmps167
 go_wp2
 refine wp_loop_rounds 1 ?_
 rw [rounds_succ]
 go_wp2
 go_end0
 exact⟨rfl,rfl⟩
theorem rD (p:Option Addr) (cap:Nat) (w:World) :
  Calls Tryz.prog 129 #[.slice p 0 cap,.int .i64 0,.int .i64 0,.int .i64 0] w fun e w'=>e=.returned (.tuple #[])∧w'=w:=by
 go_enter Tryz.func129,Tryz.ntmps129
 go_wp2
 refine wp_loop_rounds 1 ?_
 rw [rounds_succ]
 go_wp2_with (first | (go_at_call 167;refine (l8 p cap _).mono ?_;rintro e w' ⟨rfl,rfl⟩))
 refine bodyPost_ret (results_none rfl _ _ _) rfl ?_
 exact⟨rfl,rfl⟩
theorem nS (p:Option Addr) (cap:Nat) (w:World) :
  Calls Tryz.prog 92 #[.slice p 0 cap] w fun e w'=>e=.returned (.tuple #[])∧w'=w:=by
 have hLen:∀w,Calls Tryz.prog 126 #[.int .u64 0] w fun e w'=>e=.returned (.int .i64 0)∧w'=w:=fun w=>oP 0 w (by omega) (by omega)
 go_enter Tryz.func92,Tryz.ntmps92
 go_wp2_with (first
  | (go_at_call 126;refine (hLen _).mono ?_;rintro e w' ⟨rfl,rfl⟩)
  | (go_at_call 129;refine (rD p cap _).mono ?_;rintro e w' ⟨rfl,rfl⟩))
 go_end0
 exact⟨rfl,rfl⟩
theorem setCell_setCell (w:World) (blk off:Nat) (v v':Value):(w.setCell ⟨blk,off,none⟩ v).setCell ⟨blk,off,none⟩ v'=w.setCell ⟨blk,off,none⟩ v':=by
 rw [setCell_eq,setCell_eq,mapBlock_mapBlock,setCell_eq]
 congr 1
 funext c
 simp
theorem uw (rb ro X:Nat) (hX:X < 18446744073709551616) (w:World) (hc:w.cell? ⟨rb,ro,none⟩=some (.int .u64 X)) (hf:w.frozen? ⟨rb,ro,none⟩=false) :
  Calls Tryz.prog 192 #[.pointer (some ⟨rb,ro,none⟩)] w fun e w'=>e=.returned (.int .u64 (xorNextN X:Nat))∧w'=(w.setCell ⟨rb,ro,none⟩ (.int .u64 (xorNextN X:Nat))).drewN 3:=by
 obtain⟨A,hA⟩:∃A:Nat,A=X ^^^ (X*8192%18446744073709551616):=⟨_,rfl⟩
 obtain⟨B,hB⟩:∃B:Nat,B=A ^^^ (A / 128):=⟨_,rfl⟩;obtain⟨C,hC⟩:∃C:Nat,C=B ^^^ (B*131072%18446744073709551616):=⟨_,rfl⟩
 have lA:A < 18446744073709551616:=by rw [hA];exact Nat.xor_lt_two_pow (n:=64) (by omega) (by omega)
 have lB:B < 18446744073709551616:=by rw [hB];exact Nat.xor_lt_two_pow (n:=64) (by omega) (by omega)
 have e1:bits .xor .u64 (X:Int) (IntKind.u64.wrap ((X:Int)*8192))=(A:Int):=by
  rw [IntKind.wrap_u64,show ((X:Int)*8192%18446744073709551616)=((X*8192%18446744073709551616:Nat):Int) by omega,bits_xor_u64_nat _ _ hX (by omega),hA]
 have e2:bits .xor .u64 (A:Int) ((A:Int) / 128)=(B:Int):=by
  rw [show ((A:Int) / 128)=((A / 128:Nat):Int) by omega,bits_xor_u64_nat _ _ lA (by omega),hB]
 have e3:bits .xor .u64 (B:Int) (IntKind.u64.wrap ((B:Int)*131072))=(C:Int):=by
  rw [IntKind.wrap_u64,show ((B:Int)*131072%18446744073709551616)=((B*131072%18446744073709551616:Nat):Int) by omega,bits_xor_u64_nat _ _ lB (by omega),hC]
 have hv:xorNextN X=C:=by unfold xorNextN;simp only [];rw [←hA,←hB,←hC]
 rw [hv];clear hA hB hC hv;have hss:∀v v',(w.setCell ⟨rb,ro,none⟩ v).setCell ⟨rb,ro,none⟩ v'=w.setCell ⟨rb,ro,none⟩ v':=setCell_setCell w rb ro
 go_enter Tryz.func192,Tryz.ntmps192
 go_wp2
 go_region
 all_goals go_wp2
 all_goals go_region
 all_goals go_wp2
 all_goals go_region
 all_goals go_wp2
 go_ret
 exact⟨rfl,rfl⟩
theorem wrap_two_pow (k:Nat) (hk:k≤62):IntKind.u64.wrap ((2:Int) ^ k)=((1 <<< k:Nat):Int):=by
 have h:(2:Nat) ^ k≤2 ^ 62:=Nat.pow_le_pow_right (by decide) hk
 rw [IntKind.wrap_u64,Nat.one_shiftLeft,show ((2:Int) ^ k)=((2 ^ k:Nat):Int) by push_cast;rfl]
 generalize (2:Nat) ^ k=p at h
 omega
theorem sI (n:Nat) (hn:n < 4611686018427387904) (w:World) :
  Calls Tryz.prog 191 #[.int .i64 n] w fun e w'=>e=.returned (.int .u64 ((1 <<< bitsLen n:Nat):Int))∧w'=w:=by
 have hLen:∀w,Calls Tryz.prog 126 #[.int .u64 (n:Int)] w fun e w'=>e=.returned (.int .i64 (bitsLen n:Nat))∧w'=w:=fun w=>by
  have h:=oP (n:Int) w (by omega) (by omega)
  rwa [Int.toNat_natCast,bitLen_eq _ (by omega)] at h
 have hk:bitsLen n≤62:=(bitsLen_le_iff n 62).2 (by omega)
 have hp:=wrap_two_pow (bitsLen n) hk
 go_enter Tryz.func191,Tryz.ntmps191
 go_wp2_with (first | (go_at_call 126;refine (hLen _).mono ?_;rintro e w' ⟨rfl,rfl⟩))
 go_ret
 exact⟨rfl,rfl⟩
end Go.Proofs.YtfkblpjfknfgbaaGreatDoor
