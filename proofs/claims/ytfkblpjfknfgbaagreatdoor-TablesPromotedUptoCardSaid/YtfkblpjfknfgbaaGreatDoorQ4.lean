import Derived.Test.YtfkblpjfknfgbaaGreatDoorRows
import Derived.Test.YtfkblpjfknfgbaaGreatDoorQ3
import Derived.Lib.AsciiSet
import Derived.Test.YtfkblpjfknfgbaaGreatDoorQ1
import Derived.Test.YtfkblpjfknfgbaaGreatDoorQ0
import Derived.RangeFuncNested
import Derived.RangeFuncBound
import Derived.RangeFuncCalls
import Derived.RangeFuncLeaves
import Derived.RangeFuncBox
import Derived.Shelf.Abstract
import Derived.Shelf.RegionOpen
import Derived.WalkKit
import Derived.OwnWalkIn
import Derived.TacticsInMore
import Derived.LoopNIn
import Derived.LoopIn
import Derived.Lib.IndexMore
import Derived.Maps.AppendAt
import Derived.Laws.BitsLemmas
import Derived.Lib.EndianBits
import Derived.Maps.Own
import Derived.Maps.OwnSet
import Derived.Maps.Views
set_option linter.unusedVariables false
set_option linter.unusedSimpArgs false
set_option maxHeartbeats 8000000
set_option maxRecDepth 100000
open Go.Maps Go.RowKit Go.Shelf Go.WideMaps
open Go.Lib (hid cell_of_heap frozen_of_heap byteCells)
open Go.World (block_lt_of_cell?)
namespace Go.Proofs.YtfkblpjfknfgbaaGreatDoor
def kH (acc:List UInt8):List UInt8→List UInt8
 | []=>acc
 | c::l=>kH (if acc.contains c then acc else acc++[c]) l
def gD (l:List UInt8):List UInt8:=kH [] l
theorem vB (acc:List UInt8) (l:List UInt8) (c:UInt8):kH acc (l++[c])=if (kH acc l).contains c then kH acc l else kH acc l++[c]:=by
 induction l generalizing acc with
 | nil=>simp [kH]
 | cons a l ih=>rw [List.cons_append,kH,ih,kH]
theorem xM (acc l:List UInt8):(kH acc l).length≤acc.length+l.length:=by
 induction l generalizing acc with
 | nil=>simp [kH]
 | cons a l ih =>
  rw [kH]
  refine Nat.le_trans (ih _) ?_
  split<;>simp<;>omega
def bT (s:ByteArray):ByteArray×Int:=if s.size=0∨fitAll s=false then (⟨#[]⟩,21) else (mkS (gD s.data.toList),0)
def rX (W:World) (g:Nat) (l:List UInt8):Prop:=W.heap[g]?=some (.cells (Lib.setCells l) 240 (0,0))
theorem IZ.below {B b g i:Nat} {bs:List Value} {w:World} (h:IZ B b bs w) (hg:g < B) (u:Value):IZ B b bs (w.setCell ⟨g,i,none⟩ u):=by
 have key:∀p,Lib.BuilderAt 215 5 B b p bs w→Lib.BuilderAt 215 5 B b p bs (w.setCell ⟨g,i,none⟩ u):=by
  rintro p ⟨hB,v,hb,hown,hne⟩
  refine⟨hB,v,?_,ownsRow_setCell_below hown (a:=⟨g,i,none⟩) hg u,hne⟩
  rw [Go.heap_setCell_other _ _ _ _ (by show b≠g;omega)];exact hb
 rcases h with h | h
 ·exact .inl (key _ h)
 exact .inr (key _ h)
theorem rX.put {W:World} {g:Nat} {l:List UInt8} (h:rX W g l) (c:UInt8):rX (W.setCell ⟨g,c.toNat,none⟩ (.bool true)) g (l++[c]):=by
 unfold rX
 rw [Lib.setCells_snoc]
 exact Go.heap_setCell_same W g c.toNat _ _ _ h
theorem I4 (w:World):(zeroValue 240).run Tryz.prog w=.ok (.agg (Lib.setCells [])) w:=by kernel_rfl
structure lH (w W:World) (l:List UInt8):Prop where
 below:Below w.heap.size w W
 seen:rX W w.heap.size l
 out:IZ (w.heap.size+1) (w.heap.size+1) (byteCells l) W
theorem lH.start (w:World):lH w ((w.alloc (.cells (Lib.setCells []) 240)).alloc (.cells #[.pointer none,.slice none 0 0] 215)) []:=by
 refine⟨((Below.refl _ _).alloc (Nat.le_refl _) _).alloc (by simp) _,?_,?_⟩
 ·unfold rX
  rw [Lib.alloc_old _ _ _ (by simp)]
  show (w.heap.push (.cells (Lib.setCells []) 240))[w.heap.size]?=_
  rw [Array.getElem?_push_size]
 have:=Bc (w.alloc (.cells (Lib.setCells []) 240))
 simpa [byteCells] using this
theorem lH.size {w W:World} {l:List UInt8} (h:lH w W l):w.heap.size+1 < W.heap.size:=by
 rcases h.out with h | h
 ·exact h.lt
 exact h.lt
theorem lH.cell {w W:World} {l:List UInt8} (h:lH w W l) (c:UInt8):W.cell? ⟨w.heap.size,c.toNat,none⟩=some (.bool (l.contains c)):=by
 rw [cell_of_heap h.seen];exact Lib.setCells_at l c
theorem lH.thaw {w W:World} {l:List UInt8} (h:lH w W l) (j:Nat):W.frozen? ⟨w.heap.size,j,none⟩=false:=frozen_of_heap h.seen j
theorem lH.put {w W:World} {l:List UInt8} (h:lH w W l) (c:UInt8):IZ (w.heap.size+1) (w.heap.size+1) (byteCells l) (W.setCell ⟨w.heap.size,c.toNat,none⟩ (.bool true)):=h.out.below (by omega) _
theorem lH.wrote {w W W':World} {l:List UInt8} {c:UInt8} (h:lH w W l) (hb:Below (w.heap.size+1) (W.setCell ⟨w.heap.size,c.toNat,none⟩ (.bool true)) W')
  (ho:Wt (w.heap.size+1) (w.heap.size+1) (byteCells l++[.int .u8 (c.toNat:Int)]) W'):lH w W' (l++[c]):=by
 refine⟨(h.below.setCell (p:=⟨w.heap.size,c.toNat,none⟩) (Nat.le_refl _) _).trans (hb.mono (by omega)),?_,?_⟩
 ·unfold rX
  rw [hb.block _ (by omega)]
  exact h.seen.put c
 rw [eD] at ho;exact ho.is
theorem Ey (s:ByteArray) (w:World) (hs:s.size≤140737488355328) :
  Calls Tryz.prog 112 #[.string s] w fun e w'=>e=.returned (.tuple #[.string (bT s).1,.int .i64 (bT s).2])∧Below w.heap.size w w':=by
 by_cases h0:s.size=0
 ·have H:Hid (bT s=(⟨#[]⟩,21)):=hid (by unfold bT;rw [if_pos (.inl h0)])
  have hse:s=⟨#[]⟩:=by
   apply ByteArray.ext;exact Array.eq_empty_of_size_eq_zero h0
  subst hse
  go_enter Tryz.func112,Tryz.ntmps112
  have hz:=I4
  go_wp2_with fail
  go_ret2
  exact⟨by rw [H.o];rfl,(Below.refl _ _).alloc (Nat.le_refl _) _⟩
 have hne:=iY s (by omega)
 go_enter Tryz.func112,Tryz.ntmps112
 have hz:=I4
 go_wp2_with fail
 go_loopw [6,11] (fun _ i W=>∃k:Nat,k≤s.size∧i=.int .i64 k∧Hid ((s.data.toList.take k).all lC=true)∧lH w W (gD (s.data.toList.take k))) (fun _ i _=>s.size - (intOf i).toNat)
 case atStart=>exact⟨0,Nat.zero_le _,rfl,hid rfl,lH.start w⟩
 case round =>
 obtain⟨k,hk,rfl,HT,hl⟩:=hrel
 have HL:=hid hl;clear hl
 by_cases hlt:k < s.size
 ·cases hf:lC s[k]
  ·have HN:Hid (bT s=(⟨#[]⟩,21)):=hid (by unfold bT;rw [if_pos (.inr (xZ s k hlt hf))])
   go_wp2_with (first | (go_at_call 122;refine (tL _ _).mono ?_;rintro e w' ⟨rfl,rfl⟩))
   go_ret2
   exact⟨by rw [HN.o];rfl,HL.o.below⟩
  have HN:=hid (pI s k hlt hf HT.o);have hb:=s[k].toNat_lt
  have hb2:(s[k].toNat:Int) < 256:=by omega
  have hcell:=HL.o.cell s[k];have aa1:=HL.o.thaw s[k].toNat
  have HK:Hid (gD (s.data.toList.take (k+1))=if (gD (s.data.toList.take k)).contains s[k] then gD (s.data.toList.take k) else gD (s.data.toList.take k)++[s[k]]):=hid (by rw [jF s k hlt];exact vB _ _ _)
  have OJ:Hid ((gD (s.data.toList.take k)).length≤k):=hid (by
   have h1:=xM [] (s.data.toList.take k)
   have h2:(s.data.toList.take k).length≤k:=List.length_take_le _ _;rw [gD];simp only [List.length_nil] at h1
   omega)
  cases hc:(gD (s.data.toList.take k)).contains s[k]
  ·rw [hc] at hcell HK
   go_wp2_with (first
    | (go_at_call 122;refine (tL _ _).mono ?_;rintro e w' ⟨rfl,rfl⟩)
    | (go_at_call 121;refine (mF _ _ _ _ _ (HL.o.put s[k]) (by have:=OJ.o;simp [byteCells];omega) (by have:=HL.o.size;simp [World.setCell];omega)).mono ?_;rintro e w' ⟨rfl,h1,h2⟩;have HO:=hid (HL.o.wrote h2 h1);clear h1 h2))
   go_roundw
   case rel=>exact⟨k+1,by omega,by go_num,HN,by rw [HK.o];exact HO.o⟩
   case measure=>simp [intOf];omega
  rw [hc] at hcell HK
  go_wp2_with (first
   | (go_at_call 122;refine (tL _ _).mono ?_;rintro e w' ⟨rfl,rfl⟩))
  go_roundw
  case rel=>exact⟨k+1,by omega,by go_num,HN,by rw [HK.o];exact HL.o⟩
  case measure=>simp [intOf];omega
 obtain rfl:k=s.size:=by omega
 have HN:Hid (bT s=(mkS (gD (s.data.toList.take s.size)),0)):=hid (by
  unfold bT;rw [if_neg (by rintro (h | h);· exact h0 h
                           rw [pJ s HT.o] at h;cases h),List.take_of_length_le (by simp)])
 go_wp2_with (first
  | (go_at_call 119;refine (jl _ _ _ _ HL.o.out (by have:=HL.o.size;omega)).mono ?_;rintro e w' ⟨rfl,h2⟩;have HO:=hid (HL.o.below.trans (h2.mono (by omega)));clear h2))
 go_ret2
 exact⟨by rw [HN.o];rfl,HO.o⟩
def ended (l:List UInt8):List UInt8:=Lib.trimSuffix l [13]
def bJ:Nat→List UInt8→List (List UInt8)
 | 0,_=>[]
 | n+1,l=>if l=[] then [] else ended (Lib.cut l [10]).1::bJ n (Lib.cut l [10]).2.1
def unmarked (l:List UInt8):List UInt8:=Lib.trimPrefix l [239,187,191]
def aV (l:List UInt8):List (List UInt8):=bJ l.length (unmarked l)
def numbered (n:Nat):List (List UInt8)→List (Int×ByteArray)
 | []=>[]
 | l::r=>((n:Int),mkS l)::numbered (n+1) r
abbrev Ct (x:Int×ByteArray):Array Value:=#[.int .i64 x.1,.string x.2]
theorem iq (n:Nat) (r:List (List UInt8)):(numbered n r).length=r.length:=by
 induction r generalizing n with
 | nil=>rfl
 | cons a r ih=>simp [numbered,ih]
theorem FC (l:List UInt8) (h:l≠[]):(Lib.cut l [10]).2.1.length < l.length:=by
 have hl:0 < l.length:=List.length_pos_iff.2 h
 unfold Lib.cut
 split
 ·simp;omega
 simpa using hl
theorem jR (n:Nat):bJ n []=[]:=by cases n<;>simp [bJ]
theorem qW (n:Nat):∀l,(bJ n l).length≤n:=by
 induction n with
 | zero=>intro l;simp [bJ]
 | succ n ih =>
  intro l
  simp only [bJ]
  split
  ·simp
  simp;exact ih _
theorem jm (n:Nat) (l:List UInt8) (h:l≠[]) (hn:l.length≤n):bJ n l=ended (Lib.cut l [10]).1::bJ (n - 1) (Lib.cut l [10]).2.1:=by
 cases n with
 | zero=>simp at hn;exact absurd hn h
 | succ n=>simp [bJ,h]
theorem lS (l:List UInt8):(unmarked l).length≤l.length:=Lib.trimPrefix_le l _
def aC (l:List UInt8):List (Int×ByteArray):=if 65536 < l.length then [] else numbered 1 (aV l)
theorem gZ (l:List UInt8):(aC l).length≤65536:=by
 unfold aC
 split
 ·simp
 rw [iq]
 have:=qW l.length (unmarked l)
 unfold aV;omega
def Cu:Value→Nat | .string s=>s.size | _=>0
theorem NH (l:List UInt8) (m:Int) (w:World) (hs:l.length≤65536) (hm:w.cell? ⟨0,0,none⟩=some (.int .i64 m)) :
  Calls Tryz.prog 107 #[.string (mkS l),.string ⟨#[10]⟩] w fun e w'=>e=.returned (.tuple #[.string (mkS (Lib.cut l [10]).1),.string (mkS (Lib.cut l [10]).2.1),.bool (Lib.cut l [10]).2.2])∧∃n,w'=w.drewN n :=
 Tryz.strings_Cut (mkS l) ⟨#[10]⟩ m w (by rw [aG];omega) hm
theorem I5 (l:List UInt8) (w:World) (hs:l.length≤65536) :
  Calls Tryz.prog 108 #[.string (mkS l),.string ⟨#[13]⟩] w fun e w'=>e=.returned (.string (mkS (ended l)))∧w=w' :=
 (Tryz.strings_TrimSuffix (mkS l) ⟨#[13]⟩ w (by rw [aG];omega)).mono fun _ _ h=>⟨h.1,h.2.symm⟩
theorem Bf (s:ByteArray) (w:World) :
  Calls Tryz.prog 106 #[.string s,.string ⟨#[239,187,191]⟩] w fun e w'=>e=.returned (.string (mkS (unmarked s.data.toList)))∧w=w' :=
 (Tryz.strings_TrimPrefix s ⟨#[239,187,191]⟩ w).mono fun _ _ h=>⟨h.1,h.2.symm⟩
theorem rE (l:List UInt8):(Lib.cut l [10]).1.length≤l.length:=by
 unfold Lib.cut
 split
 ·simp;omega
 exact Nat.le_refl _
theorem qE (l:List UInt8):(mkS l).toList.isEmpty=l.isEmpty:=by rw [Lib.toList_data];rfl
theorem NI (n:Nat) (hn:1≤n) (l Bn n₀:Nat) (s:ByteArray) (hn0:0 < n₀) (m:Int) (J Jx:List (Int×ByteArray)→World→Prop)
  (hY:∀pre x W,J pre W→pre.length < (aC s.data.toList).length→YieldAt Fence.wide (n - 1) Tryz.prog l (Ct x) W fun e W' =>
   (e=.returned (.bool true)∧J (pre++[x]) W'∧Below n₀ W W')∨(e=.returned (.bool false)∧Jx (pre++[x]) W'))
  (hJd:∀pre (W:World) k,J pre W→J pre (W.drewN k))
  (W:World) (Wu:W.cell? ⟨Bn,0,none⟩=some (.string s)) (hm:W.cell? ⟨0,0,none⟩=some (.int .i64 m)) (h0:J [] W) :
  CallsIn Fence.wide n Tryz.prog 105 #[.func (.yield l) #[] #[],.pointer (some ⟨Bn,0,none⟩)] W fun e W'=>(∃v,e=.returned v) ∧
   ((∃ys,ys=aC s.data.toList∧J ys W')∨(∃pre,pre <+: aC s.data.toList∧Jx pre W')):=by
 have hl:=ak s
 by_cases hbig:65536 < s.size
 ·have HE:Hid (aC s.data.toList=[]):=hid (by rw [aC,if_pos (by omega)])
  have H0:=hid h0;clear hY hJd hl h0
  refine callsIn_of_wp Tryz.func105 rfl trivial ?_ rfl
  simp only [Tryz.ntmps105,List.size_toArray,List.length_cons,List.length_nil,Nat.reduceAdd,Nat.reduceSub,Array.replicate_succ,Array.replicate_zero,List.push_toArray,List.append_toArray,List.nil_append,List.cons_append]
  gi_wp2
  refine bodyPost_ret (results_none rfl _ _ _) rfl ?_
  exact⟨⟨_,rfl⟩,.inl ⟨[],HE.o.symm,H0.o⟩⟩
 have HE:Hid (aC s.data.toList=numbered 1 (bJ s.size (unmarked s.data.toList))):=hid (by rw [aC,if_neg (by omega),aV,hl])
 have HU:Hid ((unmarked s.data.toList).length≤s.size):=hid (by have:=lS s.data.toList;omega)
 have HY:=hid hY;have ZE:=hid hJd;have H0:=hid h0;clear hY hJd hl h0
 refine callsIn_of_wp Tryz.func105 rfl trivial ?_ rfl
 simp only [Tryz.ntmps105,List.size_toArray,List.length_cons,List.length_nil,Nat.reduceAdd,Nat.reduceSub,Array.replicate_succ,Array.replicate_zero,List.push_toArray,List.append_toArray,List.nil_append,List.cons_append]
 gi_wp2_with (refine⟨trivial,?_⟩;gi_at_call 106;refine (callsIn_wide.2 (Bf _ _)).mono ?_;rintro e w1 ⟨rfl,rfl⟩)
 gi_loopw [3,4] (fun r i wr=>∃(pre:List (Int×ByteArray)) (rest:List (UInt8)) (k f:Nat),r=.string (mkS rest)∧i=.int .i64 (k+1:Nat)∧pre.length=k∧rest.length≤f∧f+k≤s.size ∧
  aC s.data.toList=pre++numbered (k+1) (bJ f rest)∧J pre wr∧Below n₀ W wr) (fun r _ _=>Cu r)
 case atStart=>exact⟨[],unmarked s.data.toList,0,s.size,rfl,rfl,rfl,HU.o,by omega,HE.o,H0.o,Below.refl _ _⟩
 case round =>
 obtain⟨pre,rest,k,f,rfl,rfl,hpl,hrf,UU,hall,hj,hbw⟩:=hrel
 have um:=hid hall;have HJ:=hid hj;have Wv:=hid hbw;have ZF:=hid hpl;clear hall hj hbw hpl
 cases hq:(mkS rest).toList.isEmpty
 ·have Lf:Hid (rest≠[]):=hid (by rw [qE] at hq;intro h;rw [h] at hq;cases hq)
  have yN:=hid (jm f rest Lf.o hrf);have hcl:=FC rest Lf.o;have hcf:=rE rest;have hm2:=(Wv.o.cell (p:=⟨0,0,none⟩) hn0).trans hm
  gi_wp2_with first
   | (refine⟨trivial,?_⟩;gi_at_call 107;refine (callsIn_wide.2 (NH rest m _ (by omega) hm2)).mono ?_;rintro e w1 ⟨rfl,nd,rfl⟩)
   | (refine⟨trivial,?_⟩;gi_at_call 108;refine (callsIn_wide.2 (I5 _ _ (by omega))).mono ?_;rintro e w1 ⟨rfl,rfl⟩)
  obtain⟨fn,tmps,assign,body,hy,hR⟩:=HY.o pre ((k:Int)+1,mkS (ended (Lib.cut rest [10]).1)) (wr.drewN nd) (ZE.o _ _ nd HJ.o) (by rw [um.o,yN.o];simp [numbered])
  dsimp only [Ct] at hy;rw [hy]
  gi_wp2
  refine hR.mono ?_
  rintro e W3 (⟨rfl,hJ3,hk3⟩ | ⟨rfl,hJx3⟩)
  ·have ZG:=hid hJ3
   have ZH:=hid hk3;clear hJ3 hk3
   gi_wp2
   go_roundw
   case rel =>
    refine⟨pre++[((k:Int)+1,mkS (ended (Lib.cut rest [10]).1))],(Lib.cut rest [10]).2.1,k+1,f - 1,rfl,?_,?_,by omega,by omega,?_,ZG.o,?_⟩
    ·simp only [Int.natCast_add,Int.cast_ofNat_Int]
    ·simp [ZF.o]
    ·rw [um.o,yN.o];simp [numbered]
    exact Wv.o.trans ((show Below n₀ wr (wr.drewN nd) from⟨rfl,rfl,rfl,Nat.le_refl _,fun _ _=>rfl⟩).trans ZH.o)
   case measure=>simp only [Cu,aG];exact hcl
  have TB:=hid hJx3;clear hJx3
  gi_wp2
  refine bodyPost_ret (results_none rfl _ _ _) rfl ?_
  refine⟨⟨_,rfl⟩,.inr ⟨_,?_,TB.o⟩⟩
  rw [um.o,yN.o];exact⟨numbered (k+1+1) (bJ (f - 1) (Lib.cut rest [10]).2.1),by simp [numbered]⟩
 have Lf:Hid (rest=[]):=hid (by rw [qE] at hq;exact List.isEmpty_iff.1 hq)
 gi_wp2
 go_end0
 refine⟨⟨_,rfl⟩,.inl ⟨pre,?_,HJ.o⟩⟩
 rw [um.o,Lf.o,jR];simp [numbered]
theorem I6 (n:Nat) (s:ByteArray) (w:World) :
  CallsIn Fence.wide n Tryz.prog 73 #[.string s] w fun e w'=>e=.returned (.func (.func 105) #[] #[.pointer (some ⟨w.heap.size,0,none⟩)])∧w'=w.alloc (.cells #[.string s] 9):=by
 refine callsIn_of_wp Tryz.func73 rfl trivial ?_ rfl
 simp only [Tryz.ntmps73,List.size_toArray,List.length_cons,List.length_nil,Nat.reduceAdd,Nat.reduceSub,Array.replicate_succ,Array.replicate_zero,List.push_toArray,List.append_toArray,List.nil_append,List.cons_append]
 gi_wp2
 go_ret
 exact⟨rfl,rfl⟩
theorem GY (n:Nat) (hn:1≤n) (Bn n₀:Nat) (s:ByteArray) (hn0:0 < n₀) (m:Int) (w:World) (Wu:Bn < w.heap.size)
  (hc:w.cell? ⟨Bn,0,none⟩=some (.string s)) (hm:w.cell? ⟨0,0,none⟩=some (.int .i64 m)) :
  SeqStopsK Fence.wide n Tryz.prog 105 #[.pointer (some ⟨Bn,0,none⟩)] Ct (Below n₀) (fun ys=>ys=aC s.data.toList) (fun pre=>pre <+: aC s.data.toList) (aC s.data.toList).length w:=fun l J Jx W hW hJ _ hY h0 =>
 NI n hn l Bn n₀ s hn0 m J Jx hY (fun pre W k h=>hJ pre W _ none h ⟨rfl,rfl,rfl,Nat.le_refl _,fun _ _ _=>rfl⟩ (fun _ e=>by cases e)) W
  ((hW.cell (p:=⟨Bn,0,none⟩) Wu).trans hc) ((hW.cell (p:=⟨0,0,none⟩) (by show 0 < w.heap.size;omega)).trans hm) h0
attribute [local go_sem] Oper.semAt_some
def DK (pre:List (Int×ByteArray)):List Value:=pre.map fun x=>.string x.2
theorem Ap (s:ByteArray) (m:Int) (w:World) (h0:0 < w.heap.size) (hm:w.cell? ⟨0,0,none⟩=some (.int .i64 m)) :
  Calls Tryz.prog 42 #[.string s] w fun e W'=>∃v,e=.returned (.tuple #[v,.int .i64 (if 65536 < s.size then 10 else 0)]) ∧
   W'.ownsRow w.heap.size 9 1 v (aC s.data.toList).length (DK (aC s.data.toList))∧Below w.heap.size w W':=by
 by_cases hbig:65536 < s.size
 ·have HE:Hid (aC s.data.toList=[]):=hid (by rw [aC,if_pos (by rw [ak];omega)])
  go_enter Tryz.func42,Tryz.ntmps42
  go_wp2_with fail
  refine bodyPost_ret (results_tmp2 rfl _ _ _) rfl ?_
  exact⟨.slice none 0 0,by simp,by rw [HE.o];exact World.ownsRow_nil _ _ _ _,Below.refl _ _⟩
 have hlen:=gZ s.data.toList
 refine (callsIn_wide (n:=3)).1 ?_
 obtain⟨i0,hi,hz0,hz1,hz2⟩:=info_parts jU
 refine callsIn_of_wp_marks Tryz.func42 rfl trivial ?_ rfl
 simp only [Tryz.ntmps42,List.size_toArray,List.length_cons,List.length_nil,Nat.reduceAdd,Nat.reduceSub,Array.replicate_succ,Array.replicate_zero,List.push_toArray,List.append_toArray,List.nil_append,List.cons_append]
 gi_wp2_with (refine⟨trivial,?_⟩;gi_at_call 73;refine (I6 _ _ _).mono ?_;rintro e w' ⟨rfl,rfl⟩)
 have bO:=Boxed.new w 110 (.slice none 0 0);have bN:=Boxed.new (w.alloc (.cells #[.slice none 0 0] 110)) 9 (.string s);rw [World.size_alloc] at bN
 have hB0:Below w.heap.size w ((w.alloc (.cells #[.slice none 0 0] 110)).alloc (.cells #[.string s] 9)):=((Below.refl _ w).alloc (Nat.le_refl _) _).alloc (by simp) _
 refine wpIn_rangeFunc_ownG rfl (by omega) (gf:=105) (lb:=#[.pointer (some ⟨w.heap.size+1,0,none⟩)]) rfl trivial (enters_of Tryz.func105 (by kernel_rfl) rfl)
  (GY (3 - 1) (by omega) (w.heap.size+1) w.heap.size s h0 m _ (by simp) bN.cell ((hB0.cell (p:=⟨0,0,none⟩) h0).trans hm)) belowK_t (belowK_b (by simp;omega)) (Below.refl _ _) (fun _=>rfl)
  (fun pre W=>(∃v,Boxed W w.heap.size 110 v∧W.ownsRow w.heap.size 9 1 v pre.length (DK pre)∧True)∧Below w.heap.size w W)
  (fun _ _ _=>False)
  (OwnFrom.and (_root_.Go.Own.from (holdsRow_own w.heap.size w.heap.size 110 9 1 (fun pre=>pre.length) (fun pre=>DK pre) (fun pre v=>True)) _) (ownFrom_below (Nat.le_refl _) (by simp;omega)))
  (fun _ _ _ _ _ hs _ _=>hs)
  ⟨⟨_,bO.alloc _,World.ownsRow_nil _ _ _ _,trivial⟩,hB0⟩
  (fun x=>{ tmps:=#[.string s,undef,.slice none 0 0,.int .i64 0,.pointer (some ⟨w.heap.size,0,none⟩),undef,.string x.2,.string s,.int .i64 s.size,.bool (decide (65536 < (s.size:Int))),.string s,.func (.func 105) #[] #[.pointer (some ⟨w.heap.size+1,0,none⟩)],.int .i64 x.1,.string x.2,undef,undef,undef,undef,undef],defers:=[] }) ?assign ?body ?done ?stop
 case assign =>
  intro l x W K hK
  gi_wp2
  exact hK
 case body =>
  rintro l pre x W ⟨⟨v,hv,hrow,_⟩,hB⟩ hlt
  have hc:=hv.cell
  gi_wp2_with (gi_at_builtin;refine wpListIn_append_own _ rfl _ _ 110 rfl w.heap.size 9 i0 (.string ByteArray.empty) 1 16 Tryz.underlying110 hi hz0 hz1 hz2 rfl (by decide) _ _ _ rfl (hrow.alloc _) ⟨W.heap.size,0,none⟩ 1 1 [.string x.2] rfl rfl (cell_one_new _ _ _) (by simp [Value.oneCell']) (by unfold maxLen;omega) (by omega) (by have:=hB.size;simp;omega) ?_;intro v' w1 hown' hgrow _;obtain⟨g',cap',rfl⟩:=ownsRow_succ hown';obtain⟨hv1,hv2,hr2,hk2,hb2⟩:=hv.appended (by decide) hrow hB.size (Nat.le_refl _) hown' hgrow;have hc1:=hv1.cell;have hf1:=hv1.frozen)
  exact⟨hk2.from _,hb2,⟨_,hv2,by simpa [DK] using hr2,trivial⟩,hB.trans hb2⟩
 case done =>
  rintro D ys W hD rfl ⟨⟨v,hv,hrow,_⟩,hB⟩ hK
  have hc:=hv.cell
  gi_wp2
  refine⟨by simp,.inl ⟨_,_,rfl,run_takeDeferred hK,?_⟩⟩
  exact⟨_,results_tmp2 rfl _ _ _,v,by simp,ownsRow_putObj hrow _ hK rfl,hB.trans (belowK_b (w:=w) (Nat.le_refl _) W D _ _ (by simp at hD;omega) hK rfl rfl)⟩
 case stop =>
 rintro D c pre W _ _ h _
 exact h.elim
theorem NJ (l:List UInt8) (h:(10:UInt8)∉l):Lib.index l [10] = -1:=by
 induction l with
 | nil=>rfl
 | cons a l ih =>
  have h1:¬(10:UInt8)=a:=fun e=>h (by simp [e])
  have h2:=ih (fun e=>h (by simp [e]))
  have h3:([10]:List UInt8).isPrefixOf (a::l)=false:=by simpa [List.isPrefixOf] using h1
  rw [Lib.index,h3,h2];rfl
theorem NK (l r:List UInt8) (h:(10:UInt8)∉l):Lib.index (l++10::r) [10]=(l.length:Int):=by
 induction l with
 | nil=>simp [Lib.index,List.isPrefixOf]
 | cons a l ih =>
  have h1:¬(10:UInt8)=a:=fun e=>h (by simp [e])
  have h2:=ih (fun e=>h (by simp [e]))
  have h3:([10]:List UInt8).isPrefixOf (a::(l++10::r))=false:=by simpa [List.isPrefixOf] using h1
  rw [List.cons_append,Lib.index,h3,h2]
  have:¬((l.length:Int) == -1)=true:=by simp
  simp [this]
theorem TD (l:List UInt8) (h:(10:UInt8)∉l):Lib.cut l [10]=(l,[],false):=by
 unfold Lib.cut;rw [NJ l h,if_neg (by omega)]
theorem TF (l r:List UInt8) (h:(10:UInt8)∉l):Lib.cut (l++10::r) [10]=(l,r,true):=by
 unfold Lib.cut;rw [NK l r h]
 rw [if_pos (by omega)]
 simp
def vI:List UInt8→List UInt8→List (List UInt8)
 | [],cur=>if cur=[] then [] else [ended cur]
 | b::r,cur=>if b=10 then ended cur::vI r [] else vI r (cur++[b])
theorem GZ:∀(l cur:List UInt8) (n:Nat),(10:UInt8)∉cur→(cur++l).length≤n→vI l cur=bJ n (cur++l)
 | [],cur,n,hc,hn=>by
   by_cases h:cur=[]
   ·subst h;simp [vI,jR]
   ·rw [List.append_nil] at hn ⊢
    rw [vI,if_neg h,jm n cur h hn,TD cur hc];simp [jR]
 | b::r,cur,n,hc,hn=>by
   by_cases hb:b=10
   ·subst hb
    rw [vI,if_pos rfl,jm n _ (by simp) hn,TF cur r hc]
    simp at hn
    have:=GZ r [] (n - 1) (by simp) (by simp;omega)
    simpa using this
   ·rw [vI,if_neg hb,GZ r (cur++[b]) n (by simp [hc];exact fun e=>hb e.symm) (by simpa using hn)];simp
theorem Bg (l:List UInt8):vI (unmarked l) []=aV l:=by
 rw [GZ _ _ l.length (by simp) (by simpa using lS l)];rfl
theorem I7 (r cur:List UInt8):vI (10::r) cur=ended cur::vI r []:=by rw [vI,if_pos rfl]
theorem Ez (b:UInt8) (r cur:List UInt8) (h:b≠10):vI (b::r) cur=vI r (cur++[b]):=by rw [vI,if_neg h]
theorem Own.beside {w W W':World} {e size n e' size' n':Nat} {v v':Value} {xs xs':List Value} (h:Own w W e size v n xs) (k:Own w W e' size' v' n' xs') (hne:e≠e') (hg:W.grownBy W' v'.ownBlock):Own w W' e size v n xs:=by
 refine⟨jG k.below k.own hg (Nat.le_refl _) k.below.size,h.own.kept hg ?_⟩
 rcases h.own.2 with ⟨rfl,_⟩ | ⟨g,cap,cur,rfl,_,hh,_⟩
 ·exact .inl rfl
 refine .inr fun hc=>?_
 rcases k.own.2 with ⟨rfl,_⟩ | ⟨g',cap',cur',rfl,_,hh',_⟩
 ·simp [Value.ownBlock] at hc
 obtain rfl:g=g':=by simpa [Value.ownBlock] using hc
 rw [hh] at hh';cases hh';exact hne rfl
theorem G5 (l:List UInt8) (a:UInt8):ended (l++[a])=if a=13 then l else l++[a]:=by
 unfold ended Lib.trimSuffix Lib.hasSuffix
 by_cases h:a=13
 ·subst h
  rw [if_pos rfl,if_pos]
  ·simp
  rw [List.isSuffixOf_iff_suffix];exact⟨l,rfl⟩
 rw [if_neg h,if_neg];rw [List.isSuffixOf_iff_suffix]
 rintro⟨m,hm⟩
 have:=congrArg List.getLast? hm
 simp at this;exact h this.symm
theorem KF {w:World} {B e:Nat} {g cap n:Nat} {l:List UInt8} {a:UInt8} (h:w.ownsRow B e 1 (.slice (some ⟨g,0,none⟩) (n+1) cap) (n+1) (byteCells (l++[a]))):w.ownsRow B e 1 (.slice (some ⟨g,0,none⟩) n cap) n (byteCells l):=by
 obtain⟨h1,h2⟩:=h
 have hl:l.length=n:=by simpa [byteCells] using h1
 refine⟨by simp [byteCells,hl],?_⟩
 rcases h2 with ⟨hv,_⟩ | ⟨g',cap',cur,hv,hb,hh,hn,hm,hs,ht⟩
 ·cases hv
 cases hv
 refine .inr ⟨_,_,cur,rfl,hb,hh,by omega,hm,hs,?_⟩
 have:=congrArg (List.take n) ht
 rw [List.take_take] at this
 rw [show min n ((n+1)*1)=n*1 by omega] at this
 rw [this];simp [byteCells,←hl]
theorem lY (v:Value) (B:Nat) (l:List UInt8) (w:World) (h:w.ownsRow B 5 1 v l.length (byteCells l)) (hl:l.length≤65536) :
  Calls Tryz.prog 135 #[v] w fun e w'=>e=.returned (.string (mkS (ended l)))∧w=w':=by
 rcases List.eq_nil_or_concat l with rfl | ⟨m,a,rfl⟩
 ·have HB:=hid h
  have hcv:=bP h 213 9 Tryz.underlying213 Tryz.underlying5 Tryz.underlying9
  obtain⟨A,cap,rfl⟩:∃A cap,v=.slice A 0 cap:=by
   rcases h.2 with ⟨rfl,_⟩ | ⟨g,cap,cur,rfl,_⟩
   ·exact⟨_,_,rfl⟩
   exact⟨_,_,rfl⟩
  clear h
  go_enter Tryz.func135,Tryz.ntmps135
  go_wp2_with fail
  go_ret
  exact⟨rfl,rfl⟩
 rw [List.concat_eq_append] at h hl ⊢
 have hlen:(m++[a]).length=m.length+1:=by simp
 rw [hlen] at h hl
 rcases h.2 with ⟨_,h0⟩ | ⟨g,cap,cur,rfl,_,_,hcap,_⟩
 ·omega
 have hcv:=bP h 213 9 Tryz.underlying213 Tryz.underlying5 Tryz.underlying9;have hcf:=bP (KF h) 213 9 Tryz.underlying213 Tryz.underlying5 Tryz.underlying9
 have hc:w.cell? ⟨g,m.length,none⟩=some (.int .u8 a.toNat):=by
  have:=h.cells (g:=g) rfl m.length (.int .u8 a.toNat) (by simp [byteCells])
  rw [gJ] at this;exact this
 have HE:=hid (G5 m a);clear h
 by_cases ha:a=13
 ·have q:((a.toNat:Int)==13)=true:=by rw [ha];rfl
  have HE2:Hid (ended (m++[a])=m):=hid (by rw [HE.o,if_pos ha])
  go_enter Tryz.func135,Tryz.ntmps135
  go_wp2_with fail
  go_ret
  exact⟨by rw [HE2.o];rfl,rfl⟩
 have q:((a.toNat:Int)==13)=false:=by
  have:a.toNat≠13:=fun e=>ha (UInt8.toNat_inj.1 e)
  simp;omega
 have HE2:Hid (ended (m++[a])=m++[a]):=hid (by rw [HE.o,if_neg ha])
 go_enter Tryz.func135,Tryz.ntmps135
 go_wp2_with fail
 go_ret
 exact⟨by rw [HE2.o];rfl,rfl⟩
theorem Cv (b:UInt8) (n:Nat) (hn:n < 256):((b.toNat:Int)==(n:Int))=(UInt8.ofNat n==b):=by
 rw [Bool.eq_iff_iff,beq_iff_eq,beq_iff_eq]
 constructor
 ·intro h
  have:b.toNat=n:=by omega
  rw [←this];simp
 rintro rfl
 simp [Nat.mod_eq_of_lt hn]
theorem Qr (s:ByteArray) (h:3≤s.size):Lib.hasPrefix s.data.toList [239,187,191]=(((s[0].toNat:Int)==239)&&(((s[1].toNat:Int)==187)&&((s[2].toNat:Int)==191))):=by
 have e:s.data.toList=s[0]::s[1]::s[2]::s.data.toList.drop 3:=by
  have h0:=drop_cons s 0 (by omega)
  have h1:=drop_cons s 1 (by omega)
  have h2:=drop_cons s 2 (by omega)
  rw [List.drop_zero] at h0;rw [←h2,←h1,←h0]
 have e0:((s[0].toNat:Int)==239)=((239:UInt8)==s[0]):=Cv s[0] 239 (by omega)
 have e1:((s[1].toNat:Int)==187)=((187:UInt8)==s[1]):=Cv s[1] 187 (by omega)
 have e2:((s[2].toNat:Int)==191)=((191:UInt8)==s[2]):=Cv s[2] 191 (by omega)
 rw [e,e0,e1,e2];simp [Lib.hasPrefix,List.isPrefixOf]
theorem noMark (s:ByteArray) (h:s.size < 3):Lib.hasPrefix s.data.toList [239,187,191]=false:=by
 rw [Bool.eq_false_iff]
 intro hp
 have:=(List.isPrefixOf_iff_prefix.1 hp).length_le
 rw [ak] at this;simp at this;omega
theorem G6 (s:ByteArray) (w:World) :
  Calls Tryz.prog 134 #[.string s] w fun e w'=>e=.returned (.bool (Lib.hasPrefix s.data.toList [239,187,191]))∧w=w':=by
 by_cases h3:3≤s.size
 ·have HM:=hid (Qr s h3)
  cases q0:((s[0].toNat:Int)==239)<;>cases q1:((s[1].toNat:Int)==187)<;>cases q2:((s[2].toNat:Int)==191)
  all_goals
   have vC:=hid (HM.o.trans (by rw [q0,q1,q2]))
   go_enter Tryz.func134,Tryz.ntmps134
   go_wp2_with fail
   go_ret
   exact⟨by rw [vC.o];rfl,rfl⟩
 have HM:=hid (noMark s (by omega))
 go_enter Tryz.func134,Tryz.ntmps134
 go_wp2_with fail
 go_ret
 exact⟨by rw [HM.o];rfl,rfl⟩
theorem Bh (s:ByteArray) (w:World) (b:Bool) (h:Lib.hasPrefix s.data.toList [239,187,191]=b) :
 Calls Tryz.prog 134 #[.string s] w fun e w'=>e=.returned (.bool b)∧w=w':=h▸G6 s w
theorem oV (s:ByteArray) (w:World) (hs:s.size≤65536) :
  Calls Tryz.prog 98 #[.string s] w fun e w'=>∃v,e=.returned v∧Own w w' 9 1 v (aV s.data.toList).length (bn ((aV s.data.toList).map mkS)):=by
 obtain⟨i0,hi,hz0,hz1,hz2⟩:=info_parts jU
 obtain⟨j0,hj,hy0,hy1,hy2⟩:=info_parts fE;have hlo:=ak s
 cases hm:Lib.hasPrefix s.data.toList [239,187,191]
 all_goals
  have HM:=hid hm;clear hm
 ·have HU:Hid (vI (s.data.toList) []=aV s.data.toList):=hid (by rw [←Bg,unmarked,Lib.trimPrefix,HM.o];rfl)
  clear hlo
  go_enter Tryz.func98,Tryz.ntmps98
  go_wp2_with (go_at_call 134;refine (Bh s _ _ HM.o).mono ?_;rintro e w1 ⟨rfl,rfl⟩)
  go_loopw [3,4,5,6] (fun v b op i wr=>∃(k:Nat) (acc:List (List UInt8)) (cur:List UInt8) (o:Bool),k≤s.size∧i=.int .i64 k∧acc.length≤k∧cur.length≤k∧op=.bool o∧o=!cur.isEmpty ∧
   Own w wr 9 1 v acc.length (bn (acc.map mkS))∧Own w wr 5 1 b cur.length (byteCells cur)∧acc++vI (s.data.toList.drop k) cur=aV s.data.toList) (fun _ _ _ i _=>s.size - (intOf i).toNat)
  case atStart=>exact⟨0,[],[],false,Nat.zero_le _,rfl,Nat.le_refl _,Nat.le_refl _,rfl,rfl,(Own.fP w _ _).alloc _,Own.empty w _ _,HU.o⟩
  case round =>
  obtain⟨k,acc,cur,o,hk,rfl,hal,hcl,rfl,ho,hl,hb,wQ⟩:=hrel
  have HO:=hid ho;have HL:=hid hl;have HB:=hid hb;have HR:=hid wQ;clear ho hl hb wQ
  by_cases hlt:k < s.size
  ·have HD:=hid (drop_cons s k hlt)
   by_cases hb:s[k]=10
   ·have q:((s[k].toNat:Int) != 10)=false:=by rw [hb];rfl
    have HS:Hid (acc++ended cur::vI (s.data.toList.drop (k+1)) []=aV s.data.toList):=hid (by rw [←HR.o,HD.o,hb,I7])
    clear hb
    go_wp2_with first
     | (go_at_call 135;refine (lY _ _ cur _ HB.o.own (by omega)).mono ?_;rintro e w1 ⟨rfl,rfl⟩)
     | (at_builtin;refine aB rfl _ _ 110 rfl w.heap.size 9 i0 (.string ByteArray.empty) 16 Tryz.underlying110 hi hz0 hz1 hz2 rfl _ acc.length _ rfl HL.o.own _ rfl rfl (by unfold maxLen;omega) (by omega) HL.o.size ?_;intro gg cap w5 hown hg5;have KG:=hid (HL.o.push hown hg5);clear hown hg5)
    go_roundw
    case rel =>
     refine⟨k+1,acc++[ended cur],[],false,by omega,by go_num,by simp;omega,by simp,rfl,rfl,?_,(Own.empty _ _ _).from_ KG.o.below,by rw [←HS.o];simp⟩
     have:=KG.o.alloc (.cells #[] 5)
     rw [fQ] at this
     simpa using this
    case measure=>simp [intOf]<;>omega
   have q:((s[k].toNat:Int) != 10)=true:=by
    have:s[k].toNat≠10:=fun e=>hb (UInt8.toNat_inj.1 e)
    simp;omega
   have HS:Hid (acc++vI (s.data.toList.drop (k+1)) (cur++[s[k]])=aV s.data.toList):=hid (by rw [←HR.o,HD.o,Ez _ _ _ hb])
   clear hb
   go_wp2_with (at_builtin;refine aB rfl _ _ 213 rfl w.heap.size 5 j0 (.int .u8 0) 1 Tryz.underlying213 hj hy0 hy1 hy2 rfl _ _ _ rfl HB.o.own _ rfl rfl (by unfold maxLen;omega) (by omega) HB.o.size ?_;intro gg cap w5 hown hg5;have Ww:=hid (HB.o.push hown hg5);have KG:=hid (HL.o.beside HB.o (by decide) hg5);clear hown hg5)
   go_roundw
   case rel =>
    refine⟨k+1,acc,cur++[s[k]],true,by omega,by go_num,by omega,by simp;omega,rfl,by simp,KG.o,?_,HS.o⟩
    have h5:=Ww.o;rw [eD] at h5
    simpa using h5
   case measure=>simp [intOf]<;>omega
  obtain rfl:k=s.size:=by omega
  have HE:=hid (iC s)
  cases o
  ·have HC:Hid (aV s.data.toList=acc):=hid (by
    have h1:cur=[]:=by have:=HO.o;simpa using this
    rw [←HR.o,HE.o,h1];simp [vI])
   go_wp2_with fail
   go_ret
   exact⟨_,rfl,by rw [HC.o];exact HL.o⟩
  have HC:Hid (aV s.data.toList=acc++[ended cur]):=hid (by
   have h1:cur≠[]:=by have:=HO.o;intro h;rw [h] at this;cases this
   rw [←HR.o,HE.o,vI,if_neg h1])
  go_wp2_with first
   | (go_at_call 135;refine (lY _ _ cur _ HB.o.own (by omega)).mono ?_;rintro e w1 ⟨rfl,rfl⟩)
   | (at_builtin;refine aB rfl _ _ 110 rfl w.heap.size 9 i0 (.string ByteArray.empty) 16 Tryz.underlying110 hi hz0 hz1 hz2 rfl _ acc.length _ rfl HL.o.own _ rfl rfl (by unfold maxLen;omega) (by omega) HL.o.size ?_;intro gg cap w5 hown hg5;have KG:=hid (HL.o.push hown hg5);clear hown hg5)
  go_ret
  refine⟨_,rfl,?_⟩
  have:=KG.o
  rw [fQ] at this;rw [HC.o];simpa using this
 obtain⟨t,ht⟩:∃t,t=s.extract 3 s.size:=⟨_,rfl⟩
 have htd:t.data.toList=s.data.toList.drop 3:=by rw [ht,←Lib.toList_data,Lib.extract_toList,List.take_of_length_le];simp [hlo]
 have HU:Hid (vI (t.data.toList) []=aV s.data.toList):=hid (by rw [htd,←Bg,unmarked,Lib.trimPrefix,HM.o];rfl)
 have h3:3≤s.size:=by
  have:=(List.isPrefixOf_iff_prefix.1 HM.o).length_le
  rw [ak] at this;simpa using this
 have htl:t.size≤65536:=by rw [←ak,htd,List.length_drop];omega
 clear hlo htd
 go_enter Tryz.func98,Tryz.ntmps98
 go_wp2_with (go_at_call 134;refine (Bh s _ _ HM.o).mono ?_;rintro e w1 ⟨rfl,rfl⟩)
 rw [←ht];clear ht hs h3
 go_loopw [3,4,5,6] (fun v b op i wr=>∃(k:Nat) (acc:List (List UInt8)) (cur:List UInt8) (o:Bool),k≤t.size∧i=.int .i64 k∧acc.length≤k∧cur.length≤k∧op=.bool o∧o=!cur.isEmpty ∧
  Own w wr 9 1 v acc.length (bn (acc.map mkS))∧Own w wr 5 1 b cur.length (byteCells cur)∧acc++vI (t.data.toList.drop k) cur=aV s.data.toList) (fun _ _ _ i _=>t.size - (intOf i).toNat)
 case atStart=>exact⟨0,[],[],false,Nat.zero_le _,rfl,Nat.le_refl _,Nat.le_refl _,rfl,rfl,(Own.fP w _ _).alloc _,Own.empty w _ _,HU.o⟩
 case round =>
 obtain⟨k,acc,cur,o,hk,rfl,hal,hcl,rfl,ho,hl,hb,wQ⟩:=hrel
 have HO:=hid ho;have HL:=hid hl;have HB:=hid hb;have HR:=hid wQ;clear ho hl hb wQ
 by_cases hlt:k < t.size
 ·have HD:=hid (drop_cons t k hlt)
  by_cases hb:t[k]=10
  ·have q:((t[k].toNat:Int) != 10)=false:=by rw [hb];rfl
   have HS:Hid (acc++ended cur::vI (t.data.toList.drop (k+1)) []=aV s.data.toList):=hid (by rw [←HR.o,HD.o,hb,I7])
   clear hb
   go_wp2_with first
    | (go_at_call 135;refine (lY _ _ cur _ HB.o.own (by omega)).mono ?_;rintro e w1 ⟨rfl,rfl⟩)
    | (at_builtin;refine aB rfl _ _ 110 rfl w.heap.size 9 i0 (.string ByteArray.empty) 16 Tryz.underlying110 hi hz0 hz1 hz2 rfl _ acc.length _ rfl HL.o.own _ rfl rfl (by unfold maxLen;omega) (by omega) HL.o.size ?_;intro gg cap w5 hown hg5;have KG:=hid (HL.o.push hown hg5);clear hown hg5)
   go_roundw
   case rel =>
    refine⟨k+1,acc++[ended cur],[],false,by omega,by go_num,by simp;omega,by simp,rfl,rfl,?_,(Own.empty _ _ _).from_ KG.o.below,by rw [←HS.o];simp⟩
    have:=KG.o.alloc (.cells #[] 5)
    rw [fQ] at this
    simpa using this
   case measure=>simp [intOf]<;>omega
  have q:((t[k].toNat:Int) != 10)=true:=by
   have:t[k].toNat≠10:=fun e=>hb (UInt8.toNat_inj.1 e)
   simp;omega
  have HS:Hid (acc++vI (t.data.toList.drop (k+1)) (cur++[t[k]])=aV s.data.toList):=hid (by rw [←HR.o,HD.o,Ez _ _ _ hb])
  clear hb
  go_wp2_with (at_builtin;refine aB rfl _ _ 213 rfl w.heap.size 5 j0 (.int .u8 0) 1 Tryz.underlying213 hj hy0 hy1 hy2 rfl _ _ _ rfl HB.o.own _ rfl rfl (by unfold maxLen;omega) (by omega) HB.o.size ?_;intro gg cap w5 hown hg5;have Ww:=hid (HB.o.push hown hg5);have KG:=hid (HL.o.beside HB.o (by decide) hg5);clear hown hg5)
  go_roundw
  case rel =>
   refine⟨k+1,acc,cur++[t[k]],true,by omega,by go_num,by omega,by simp;omega,rfl,by simp,KG.o,?_,HS.o⟩
   have h5:=Ww.o;rw [eD] at h5
   simpa using h5
  case measure=>simp [intOf]<;>omega
 obtain rfl:k=t.size:=by omega
 have HE:=hid (iC t)
 cases o
 ·have HC:Hid (aV s.data.toList=acc):=hid (by
   have h1:cur=[]:=by have:=HO.o;simpa using this
   rw [←HR.o,HE.o,h1];simp [vI])
  go_wp2_with fail
  go_ret
  exact⟨_,rfl,by rw [HC.o];exact HL.o⟩
 have HC:Hid (aV s.data.toList=acc++[ended cur]):=hid (by
  have h1:cur≠[]:=by have:=HO.o;intro h;rw [h] at this;cases this
  rw [←HR.o,HE.o,vI,if_neg h1])
 go_wp2_with first
  | (go_at_call 135;refine (lY _ _ cur _ HB.o.own (by omega)).mono ?_;rintro e w1 ⟨rfl,rfl⟩)
  | (at_builtin;refine aB rfl _ _ 110 rfl w.heap.size 9 i0 (.string ByteArray.empty) 16 Tryz.underlying110 hi hz0 hz1 hz2 rfl _ acc.length _ rfl HL.o.own _ rfl rfl (by unfold maxLen;omega) (by omega) HL.o.size ?_;intro gg cap w5 hown hg5;have KG:=hid (HL.o.push hown hg5);clear hown hg5)
 go_ret
 refine⟨_,rfl,?_⟩
 have:=KG.o
 rw [fQ] at this;rw [HC.o];simpa using this
def jB (s:ByteArray):Int:=if 65536 < s.size then 10 else 0
theorem UH (W:World) (h:W.ShapedOpen Tryz.prog):∃m,W.cell? ⟨0,0,none⟩=some (.int .i64 m) :=
 Go.Proofs.cell_of_shapedOpen_int (zero:=#[.int .i64 0]) h (by decide +kernel) (by kernel_rfl) rfl (by kernel_rfl) (by kernel_rfl) Tryz.underlying3
def clamp (s:ByteArray):ByteArray:=if s.size≤65536 then s else ⟨#[]⟩
theorem EA (s:ByteArray):(clamp s).size≤65536:=by
 unfold clamp
 split
 ·assumption
 exact Nat.zero_le _
abbrev TG (x:Int×ByteArray):Array Value:=#[.int .i64 x.1,.string (clamp x.2)]
theorem Qt (x:Int×ByteArray) (h:x.2.size≤65536):TG x=#[.int .i64 x.1,.string x.2]:=by
 show #[Value.int .i64 x.1,.string (clamp x.2)]=_
 unfold clamp;rw [if_pos h]
theorem Da (l:List UInt8):(ended l).length≤l.length:=by
 unfold ended Lib.trimSuffix
 split
 ·rw [List.length_take];omega
 exact Nat.le_refl _
theorem KH (n:Nat) (hn:1≤n) (l Bn n₀:Nat) (s:ByteArray) (hn0:0 < n₀) (m:Int) (J Jx:List (Int×ByteArray)→World→Prop)
  (hY:∀pre x W,J pre W→pre.length < (aC s.data.toList).length→YieldAt Fence.wide (n - 1) Tryz.prog l (TG x) W fun e W' =>
   (e=.returned (.bool true)∧J (pre++[x]) W'∧Below n₀ W W')∨(e=.returned (.bool false)∧Jx (pre++[x]) W'))
  (hJd:∀pre (W:World) k,J pre W→J pre (W.drewN k))
  (W:World) (Wu:W.cell? ⟨Bn,0,none⟩=some (.string s)) (hm:W.cell? ⟨0,0,none⟩=some (.int .i64 m)) (h0:J [] W) :
  CallsIn Fence.wide n Tryz.prog 105 #[.func (.yield l) #[] #[],.pointer (some ⟨Bn,0,none⟩)] W fun e W'=>(∃v,e=.returned v) ∧
   ((∃ys,ys=aC s.data.toList∧J ys W')∨(∃pre,pre <+: aC s.data.toList∧Jx pre W')):=by
 have hl:=ak s
 by_cases hbig:65536 < s.size
 ·have HE:Hid (aC s.data.toList=[]):=hid (by rw [aC,if_pos (by omega)])
  have H0:=hid h0;clear hY hJd hl h0
  refine callsIn_of_wp Tryz.func105 rfl trivial ?_ rfl
  simp only [Tryz.ntmps105,List.size_toArray,List.length_cons,List.length_nil,Nat.reduceAdd,Nat.reduceSub,Array.replicate_succ,Array.replicate_zero,List.push_toArray,List.append_toArray,List.nil_append,List.cons_append]
  gi_wp2
  refine bodyPost_ret (results_none rfl _ _ _) rfl ?_
  exact⟨⟨_,rfl⟩,.inl ⟨[],HE.o.symm,H0.o⟩⟩
 have HE:Hid (aC s.data.toList=numbered 1 (bJ s.size (unmarked s.data.toList))):=hid (by rw [aC,if_neg (by omega),aV,hl])
 have HU:Hid ((unmarked s.data.toList).length≤s.size):=hid (by have:=lS s.data.toList;omega)
 have HY:=hid hY;have ZE:=hid hJd;have H0:=hid h0;clear hY hJd hl h0
 refine callsIn_of_wp Tryz.func105 rfl trivial ?_ rfl
 simp only [Tryz.ntmps105,List.size_toArray,List.length_cons,List.length_nil,Nat.reduceAdd,Nat.reduceSub,Array.replicate_succ,Array.replicate_zero,List.push_toArray,List.append_toArray,List.nil_append,List.cons_append]
 gi_wp2_with (refine⟨trivial,?_⟩;gi_at_call 106;refine (callsIn_wide.2 (Bf _ _)).mono ?_;rintro e w1 ⟨rfl,rfl⟩)
 gi_loopw [3,4] (fun r i wr=>∃(pre:List (Int×ByteArray)) (rest:List (UInt8)) (k f:Nat),r=.string (mkS rest)∧i=.int .i64 (k+1:Nat)∧pre.length=k∧rest.length≤f∧f+k≤s.size ∧
  aC s.data.toList=pre++numbered (k+1) (bJ f rest)∧J pre wr∧Below n₀ W wr) (fun r _ _=>Cu r)
 case atStart=>exact⟨[],unmarked s.data.toList,0,s.size,rfl,rfl,rfl,HU.o,by omega,HE.o,H0.o,Below.refl _ _⟩
 case round =>
 obtain⟨pre,rest,k,f,rfl,rfl,hpl,hrf,UU,hall,hj,hbw⟩:=hrel
 have um:=hid hall;have HJ:=hid hj;have Wv:=hid hbw;have ZF:=hid hpl;clear hall hj hbw hpl
 cases hq:(mkS rest).toList.isEmpty
 ·have Lf:Hid (rest≠[]):=hid (by rw [qE] at hq;intro h;rw [h] at hq;cases hq)
  have yN:=hid (jm f rest Lf.o hrf);have hcl:=FC rest Lf.o;have hcf:=rE rest;have hm2:=(Wv.o.cell (p:=⟨0,0,none⟩) hn0).trans hm
  gi_wp2_with first
   | (refine⟨trivial,?_⟩;gi_at_call 107;refine (callsIn_wide.2 (NH rest m _ (by omega) hm2)).mono ?_;rintro e w1 ⟨rfl,nd,rfl⟩)
   | (refine⟨trivial,?_⟩;gi_at_call 108;refine (callsIn_wide.2 (I5 _ _ (by omega))).mono ?_;rintro e w1 ⟨rfl,rfl⟩)
  obtain⟨fn,tmps,assign,body,hy,hR⟩:=HY.o pre ((k:Int)+1,mkS (ended (Lib.cut rest [10]).1)) (wr.drewN nd) (ZE.o _ _ nd HJ.o) (by rw [um.o,yN.o];simp [numbered])
  rw [Qt _ (by show (mkS (ended (Lib.cut rest [10]).1)).size≤65536;rw [aG];have:=Da (Lib.cut rest [10]).1;omega)] at hy
  rw [hy]
  gi_wp2
  refine hR.mono ?_
  rintro e W3 (⟨rfl,hJ3,hk3⟩ | ⟨rfl,hJx3⟩)
  ·have ZG:=hid hJ3
   have ZH:=hid hk3;clear hJ3 hk3
   gi_wp2
   go_roundw
   case rel =>
    refine⟨pre++[((k:Int)+1,mkS (ended (Lib.cut rest [10]).1))],(Lib.cut rest [10]).2.1,k+1,f - 1,rfl,?_,?_,by omega,by omega,?_,ZG.o,?_⟩
    ·simp only [Int.natCast_add,Int.cast_ofNat_Int]
    ·simp [ZF.o]
    ·rw [um.o,yN.o];simp [numbered]
    exact Wv.o.trans ((show Below n₀ wr (wr.drewN nd) from⟨rfl,rfl,rfl,Nat.le_refl _,fun _ _=>rfl⟩).trans ZH.o)
   case measure=>simp only [Cu,aG];exact hcl
  have TB:=hid hJx3;clear hJx3
  gi_wp2
  refine bodyPost_ret (results_none rfl _ _ _) rfl ?_
  refine⟨⟨_,rfl⟩,.inr ⟨_,?_,TB.o⟩⟩
  rw [um.o,yN.o];exact⟨numbered (k+1+1) (bJ (f - 1) (Lib.cut rest [10]).2.1),by simp [numbered]⟩
 have Lf:Hid (rest=[]):=hid (by rw [qE] at hq;exact List.isEmpty_iff.1 hq)
 gi_wp2
 go_end0
 refine⟨⟨_,rfl⟩,.inl ⟨pre,?_,HJ.o⟩⟩
 rw [um.o,Lf.o,jR];simp [numbered]
theorem EB (n:Nat) (hn:1≤n) (Bn n₀:Nat) (s:ByteArray) (hn0:0 < n₀) (m:Int) (w:World) (Wu:Bn < w.heap.size)
  (hc:w.cell? ⟨Bn,0,none⟩=some (.string s)) (hm:w.cell? ⟨0,0,none⟩=some (.int .i64 m)) :
  SeqStopsK Fence.wide n Tryz.prog 105 #[.pointer (some ⟨Bn,0,none⟩)] TG (Below n₀) (fun ys=>ys=aC s.data.toList) (fun pre=>pre <+: aC s.data.toList) (aC s.data.toList).length w:=fun l J Jx W hW hJ _ hY h0 =>
 KH n hn l Bn n₀ s hn0 m J Jx hY (fun pre W k h=>hJ pre W _ none h ⟨rfl,rfl,rfl,Nat.le_refl _,fun _ _ _=>rfl⟩ (fun _ e=>by cases e)) W
  ((hW.cell (p:=⟨Bn,0,none⟩) Wu).trans hc) ((hW.cell (p:=⟨0,0,none⟩) (by show 0 < w.heap.size;omega)).trans hm) h0
attribute [local go_sem] Oper.semAt_some
theorem tN:∀(l:List UInt8) (c:Option (List UInt8)),(∀d,c=some d→d≠[])→∀f∈lN l c,f≠[]
 | [],none,_,f,hf=>by simp [lN] at hf
 | [],some d,hc,f,hf=>by simp [lN] at hf;subst hf;exact hc _ rfl
 | b::l,none,hc,f,hf=>by
   cases hg:nZ b
   ·rw [zM _ _ hg] at hf;exact tN l _ (by intro d e;cases e;simp) f hf
   ·rw [wR _ _ hg] at hf;exact tN l _ (by intro d e;cases e) f hf
 | b::l,some d,hc,f,hf=>by
   cases hg:nZ b
   ·rw [CU _ _ _ hg] at hf;exact tN l _ (by intro d' e;cases e;simp) f hf
   ·rw [BD _ _ (.inr ⟨b,l,rfl,hg⟩),wR _ _ hg] at hf
    rcases List.mem_cons.1 hf with rfl | h
    ·exact hc f rfl
    ·exact tN l _ (by intro d' e;cases e) f h
theorem wZ (s:ByteArray):∀f∈aH s,0 < f.size:=by
 intro f hf
 unfold aH at hf;obtain⟨m,hm,rfl⟩:=List.mem_map.1 hf;rw [aG]
 exact List.length_pos_iff.2 (tN _ none (by intro d e;cases e) m hm)
def sharp (f:ByteArray):Bool:=f.data.toList.head?==some 35
def mK (fs:List ByteArray):List ByteArray:=fs.takeWhile (fun f=>!sharp f)
theorem zQ (fs:List ByteArray) (k:Nat) (hk:k < fs.length) (h:∀f∈fs.take k,sharp f=false) (hs:sharp fs[k]=true):mK fs=fs.take k:=by
 unfold mK
 conv=>lhs;rw [←List.take_append_drop k fs]
 rw [List.takeWhile_append_of_pos (by intro f hf;simp [h f hf]),List.drop_eq_getElem_cons hk,List.takeWhile_cons_of_neg (by simp [hs]),List.append_nil]
theorem Dc (fs:List ByteArray) (h:∀f∈fs,sharp f=false):mK fs=fs:=by
 induction fs with
 | nil=>rfl
 | cons a fs ih =>
  have ih':=ih (fun f hf=>h f (by simp [hf]))
  unfold mK at ih' ⊢
  rw [List.takeWhile_cons_of_pos (by simp [h a (by simp)]),ih']
theorem w_ (f:ByteArray) (h:0 < f.size):sharp f=((f[0].toNat:Int)==35):=by
 have e:f.data.toList=f[0]::f.data.toList.drop 1:=by
  have:=drop_cons f 0 h
  simpa using this
 have b:((f[0].toNat:Int)==35)=((35:UInt8)==f[0]):=Cv f[0] 35 (by omega)
 unfold sharp;rw [e,b,Bool.eq_iff_iff]
 simp
 exact⟨fun h=>h.symm,fun h=>h.symm⟩
abbrev nT:=Int×Value×List ByteArray
def bq (rs:List nT):List Value:=rs.flatMap fun r=>[.int .i64 r.1,r.2.1]
def dP (rs:List nT):List (Int×List ByteArray):=rs.map fun r=>(r.1,r.2.2)
def rowOf (n:Int) (l:ByteArray):List (Int×List ByteArray):=if mK (aH l)=[] then [] else [(n,mK (aH l))]
def rowsOf (pre:List (Int×ByteArray)):List (Int×List ByteArray):=pre.flatMap fun x=>rowOf x.1 (clamp x.2)
theorem uV (pre:List (Int×ByteArray)) (x:Int×ByteArray):rowsOf (pre++[x])=rowsOf pre++rowOf x.1 (clamp x.2):=by simp [rowsOf]
theorem KI (n:Int) (l:ByteArray):(rowOf n l).length≤1:=by unfold rowOf;split<;>simp
theorem nL (pre:List (Int×ByteArray)):(rowsOf pre).length≤pre.length:=by
 induction pre with
 | nil=>simp [rowsOf]
 | cons x pre ih =>
  have:=KI x.1 (clamp x.2)
  have e:rowsOf (x::pre)=rowOf x.1 (clamp x.2)++rowsOf pre:=by simp [rowsOf]
  rw [e,List.length_append,List.length_cons];omega
def qH (W:World) (e:Nat) (v:Value) (n:Nat) (xs:List Value):Prop :=
 xs.length=n∧∃A cap,v=.slice A n cap∧n≤cap∧(n=0∨∃(g:Nat) (cur:Array Value) (fr:Nat×Nat),A=some ⟨g,0,none⟩∧W.heap[g]?=some (.cells cur e fr)∧∀(j:Nat) (u:Value),xs[j]?=some u→cur[j]?=some u)
theorem qH.rd {W:World} {e n:Nat} {v:Value} {xs:List Value} (h:qH W e v n xs):Rd W 1 v n xs:=by
 obtain⟨h1,A,cap,hv,hc,h2⟩:=h
 refine⟨by omega,A,cap,hv,hc,?_⟩
 rcases h2 with h2 | ⟨g,cur,fr,hA,hb,h3⟩
 ·exact .inl h2
 exact .inr ⟨g,0,hA,fun j u hj=>by rw [Nat.zero_add,cell_of_row W g j cur e fr hb];exact h3 j u hj⟩
theorem qH.kept {W W':World} {row:Option Nat} {e n:Nat} {v:Value} {xs:List Value} (h:qH W e v n xs) (hg:W.grownBy W' row) (hrow:∀r,row=some r→∃o:Obj,W.heap[r]?=some o∧∀cur fr,o≠.cells cur e fr):qH W' e v n xs:=by
 obtain⟨h1,A,cap,hv,hc,h2⟩:=h
 refine⟨h1,A,cap,hv,hc,?_⟩
 rcases h2 with h2 | ⟨g,cur,fr,hA,hb,h3⟩
 ·exact .inl h2
 refine .inr ⟨g,cur,fr,hA,?_,h3⟩
 refine (hg.block g (block_lt hb) fun e'=>?_).trans hb
 obtain⟨o,ho,hne⟩:=hrow g e'.symm;rw [hb] at ho;cases ho;exact hne _ _ rfl
theorem qH.keep {W W':World} {e n:Nat} {v:Value} {xs:List Value} (h:qH W e v n xs) (hb:Below W.heap.size W W'):qH W' e v n xs :=
 h.kept (oJ hb none) (fun r e=>by cases e)
theorem qH.aN {w:World} {B e n:Nat} {v:Value} {xs:List Value} (h:w.ownsRow B e 1 v n xs):qH w e v n xs:=by
 refine⟨by have:=h.1;omega,?_⟩
 rcases h.2 with ⟨rfl,rfl⟩ | ⟨g,cap,cur,rfl,_,hb,hn,_,_,ht⟩
 ·exact⟨none,0,rfl,Nat.le_refl _,.inl rfl⟩
 refine⟨_,cap,rfl,hn,.inr ⟨g,cur,_,rfl,hb,fun j u hj=>?_⟩⟩
 rw [←ht] at hj
 have:=List.getElem?_take_of_lt (l:=cur.toList) (show j < n*1 from by
  rcases Nat.lt_or_ge j (n*1) with h | h
  ·exact h
  rw [List.getElem?_eq_none (by rw [List.length_take];omega)] at hj;cases hj)
 rw [this] at hj
 simpa using hj
theorem qH.front {w:World} {e n k g cap:Nat} {xs:List Value} (h:qH w e (.slice (some ⟨g,0,none⟩) n cap) n xs) (hk:k≤n):qH w e (.slice (some ⟨g,0,none⟩) k k) k (xs.take k):=by
 obtain⟨h1,A,cap',hv,hc,h2⟩:=h
 cases hv
 refine⟨by rw [List.length_take];omega,_,k,rfl,Nat.le_refl _,?_⟩
 rcases h2 with h2 | ⟨g',cur,fr,hA,hb,h3⟩
 ·exact .inl (by omega)
 cases hA
 refine .inr ⟨_,cur,fr,rfl,hb,fun j u hj=>h3 j u ?_⟩
 rw [List.getElem?_take] at hj
 split at hj
 ·exact hj
 cases hj
theorem Bj {o:Obj} (h:o.isCells=false) (e:Nat):∀cur fr,o≠.cells cur e fr:=by
 rintro cur fr rfl;cases h
def gK (W:World) (rs:List nT):Prop:=∀r∈rs,qH W 9 r.2.1 r.2.2.length (bn r.2.2)
def qF (n₀ B:Nat) (t e:Nat) (W:World) (out:List (Int×List ByteArray)):Prop :=
 ∃(rs:List nT) (v:Value),Boxed W B t v∧W.ownsRow n₀ e 2 v rs.length (bq rs)∧gK W rs∧dP rs=out
theorem EC {β:Type} (n₀ B t e:Nat) (f:β→List (Int×List ByteArray)):_root_.Go.Own (fun s W=>qF n₀ B t e W (f s)):=by
 rintro s X Y row ⟨rs,v,hv,hr,hrd,ha⟩ hg hrow
 refine⟨rs,v,hv.kept hg (fun e'=>?_),hr.kept hg ?_,fun r hm=>(hrd r hm).kept hg (fun q e=>by obtain⟨o,ho,hc⟩:=hrow q e;exact⟨o,ho,Bj hc _⟩),ha⟩
 ·obtain⟨o,ho,hc⟩:=hrow B e'.symm
  rw [show X.heap[B]?=_ from hv] at ho;cases ho;cases hc
 rcases hr.2 with ⟨rfl,_⟩ | ⟨g,cap,cur,rfl,_,hgb,_⟩
 ·exact .inl rfl
 refine .inr fun e'=>?_
 obtain⟨o,ho,hc⟩:=hrow g (by simpa [Value.ownBlock] using e'.symm)
 rw [hgb] at ho;cases ho;cases hc
theorem qF.keep {n₀ B t e:Nat} {W W':World} {out:List (Int×List ByteArray)} (h:qF n₀ B t e W out) (hb:Below W.heap.size W W'):qF n₀ B t e W' out:=by
 obtain⟨rs,v,hv,hr,hrd,ha⟩:=h
 exact⟨rs,v,(hb.block B hv.lt).trans hv,own_below hr hb,fun r hm=>(hrd r hm).keep hb,ha⟩
theorem iI {B:Nat} {W W':World} (hb:Below W.heap.size W W'):KeepsFrom B W W' :=
 ⟨hb.size,fun _ _ _ h0 _=>(hb.block _ (Array.getElem?_eq_some_iff.1 h0).1).trans h0⟩
theorem Bl {W w1:World} {n₀ B t e:Nat} {v v':Value} {rs:List nT} {r:nT} {tmp:Obj} {out:List (Int×List ByteArray)} (hte:t≠e) (hes:9≠e) (hts:9≠t)
  (hv:Boxed W B t v) (hrow:W.ownsRow n₀ e 2 v rs.length (bq rs)) (hrd:gK W rs) (hab:dP rs=out) (hr:qH W 9 r.2.1 r.2.2.length (bn r.2.2)) (hn₀:n₀≤W.heap.size) (hB:n₀≤B)
  (hown':w1.ownsRow n₀ e 2 v' (rs.length+1) (bq rs++[.int .i64 r.1,r.2.1])) (hgrow:(W.alloc tmp).grownBy w1 v.ownBlock) :
  KeepsOthers W (w1.setCell ⟨B,0,none⟩ v')∧Below n₀ W (w1.setCell ⟨B,0,none⟩ v')∧qF n₀ B t e (w1.setCell ⟨B,0,none⟩ v') (out++[(r.1,r.2.2)]):=by
 obtain⟨hv1,hv2,hr2,hk2,hb2⟩:=hv.appended hte hrow hn₀ hB hown' hgrow
 refine⟨hk2,hb2,rs++[r],v',hv2,by simpa [bq] using hr2,?_,by rw [←hab];simp [dP]⟩
 have keep:∀(q:nT),qH W 9 q.2.1 q.2.2.length (bn q.2.2)→qH (w1.setCell ⟨B,0,none⟩ v') 9 q.2.1 q.2.2.length (bn q.2.2):=by
  intro q hq
  have h1:qH (W.alloc tmp) 9 q.2.1 q.2.2.length (bn q.2.2):=hq.kept (World.grownBy_alloc W tmp none) (fun r e=>by cases e)
  have h2:qH w1 9 q.2.1 q.2.2.length (bn q.2.2):=h1.kept hgrow (fun k ek=>by
   rcases (hrow.alloc tmp).2 with ⟨rfl,_⟩ | ⟨g,cap,cur,rfl,_,hgb,_⟩
   ·simp [Value.ownBlock] at ek
   obtain rfl:g=k:=by simpa [Value.ownBlock] using ek
   exact⟨_,hgb,by rintro c f e';injection e' with _ h;exact hes h.symm⟩)
  exact h2.kept (grownBy_setCell' w1 B v') (fun k ek=>by cases ek;exact⟨_,hv1,by rintro c f e';injection e' with _ h;exact hts h.symm⟩)
 intro q hq
 rcases List.mem_append.1 hq with h | h
 ·exact keep q (hrd q h)
 rw [List.mem_singleton.1 h];exact keep r hr
theorem Bo (w:World) (us:Array Value) (t:Nat):∀j u,us.toList[j]?=some u→(w.alloc (.cells us t)).cell? ((⟨w.heap.size,0,none⟩:Addr).add j)=some u:=by
 intro j u hj
 rw [gJ,cell_of_row (w.alloc (.cells us t)) w.heap.size j us t (0,0) (heap_alloc_new w _)]
 simpa using hj
def cO (t:List UInt8) (b:UInt8):Bool:=match t with
 | []=>false
 | [c]=>c.toNat==46||c==b
 | _::c::l=>if c.toNat=94 then !(l.dropLast.contains b) else (c::l).dropLast.contains b
def dV:Nat→List UInt8→Except Int (List (List UInt8))
 | 0,_=>.ok []
 | _,[]=>.ok []
 | n+1,b::l=>if b.toNat=91 then match l.findIdx? (fun c=>c.toNat==93) with
    | none=>.error 41
    | some k=>if k=0∨(k=1∧(l.getD 0 0).toNat=94) then .error 41 else match dV n (l.drop (k+1)) with
      | .error c=>.error c
      | .ok ts=>.ok ((b::l.take (k+1))::ts)
   else match dV n l with
    | .error c=>.error c
    | .ok ts=>.ok ([b]::ts)
def gT (l:List UInt8):Except Int (List (List UInt8)) :=
 if l.length=0∨512 < l.length then .error 40 else if l=[46] then .ok [] else match dV l.length l with
  | .error c=>.error c
  | .ok ts=>if 16 < ts.length then .error 42 else .ok ts
def aS:List UInt8:=(List.range 256).map UInt8.ofNat
def fJ (t:List UInt8):List UInt8 :=
 let yes:=aS.filter (fun b=>cO t b)
 let no:=aS.filter (fun b=>!cO t b)
 if no=[] then [46] else if yes.length=1∧yes≠[46]∧yes≠[91] then yes
 else if cO t 93=true then [91,94]++no++[93] else [91]++yes.filter (fun b=>b.toNat != 94)++(if yes.contains 94=true then [94] else [])++[93]
def dF (ts:List (List UInt8)):List UInt8:=if ts=[] then [46] else ts.flatMap fJ
abbrev Ws:=Nat→Nat
def G7 (X:Ws):Value:=.agg #[.int .u64 (X 0),.int .u64 (X 1),.int .u64 (X 2),.int .u64 (X 3)]
def dO (X:Ws) (p:UInt8→Bool):Prop:=(∀j,X j < 18446744073709551616)∧∀b:UInt8,(X (b.toNat / 64)).testBit (b.toNat%64)=p b
def ED (X:Ws) (n:Nat):Ws:=fun j=>if j=n / 64 then X j ||| 2 ^ (n%64) else X j
def KJ (X:Ws):Ws:=fun j=>18446744073709551615 - X j
theorem dO.none:dO (fun _=>0) (fun _=>false):=⟨fun j=>show 0 < 18446744073709551616 by decide,fun b=>by simp⟩
theorem dO.put {X:Ws} {p:UInt8→Bool} (h:dO X p) (c:UInt8):dO (ED X c.toNat) (fun b=>p b||c==b):=by
 refine⟨fun j=>?_,fun b=>?_⟩
 ·unfold ED
  split
  ·exact Nat.or_lt_two_pow (n:=64) (h.1 j) (Nat.pow_lt_pow_right (by decide) (by omega))
  exact h.1 j
 unfold ED;have hb:=h.2 b
 by_cases e:b.toNat / 64=c.toNat / 64
 ·rw [if_pos e,Nat.testBit_or,Nat.testBit_two_pow,hb]
  congr 1
  rw [Bool.eq_iff_iff,decide_eq_true_iff,beq_iff_eq,←UInt8.toNat_inj]
  omega
 rw [if_neg e,hb]
 have:(c==b)=false:=by rw [beq_eq_false_iff_ne];rintro rfl;exact e rfl
 show p b=(p b||c==b)
 rw [this,Bool.or_false]
theorem dO.not {X:Ws} {p:UInt8→Bool} (h:dO X p):dO (KJ X) (fun b=>!p b):=by
 refine⟨fun j=>by unfold KJ;omega,fun b=>?_⟩
 have hb:=h.2 b;have hx:=h.1 (b.toNat / 64);unfold KJ
 rw [show 18446744073709551615 - X (b.toNat / 64)=2 ^ 64 - (X (b.toNat / 64)+1) by omega,Nat.testBit_two_pow_sub_succ hx,hb]
 have:b.toNat%64 < 64:=Nat.mod_lt _ (by decide)
 simp [this]
theorem dO.ext {X:Ws} {p q:UInt8→Bool} (h:dO X p) (he:∀b,p b=q b):dO X q:=⟨h.1,fun b=>by rw [h.2 b,he b]⟩
instance Wx:LawfulBEq ByteArray where
 eq_of_beq {a b} h:=by
  obtain⟨a⟩:=a
  obtain⟨b⟩:=b
  have:(a==b)=true:=h
  rw [eq_of_beq this]
 rfl {a}:=by
  obtain⟨a⟩:=a
  show (a==a)=true
  exact beq_self_eq_true a
def Bp:List UInt8→List UInt8→List UInt8×List UInt8×Bool×Int
 | acc,[]=>(acc,[],false,0)
 | acc,b::l =>
  if b.toNat=47 then (acc,l,true,0)
  else if b.toNat=92 then match l with
   | []=>([],[],false,20)
   | c::l'=>if c.toNat=92∨c.toNat=47∨c.toNat=35 then Bp (acc++[c]) l' else ([],[],false,20)
  else Bp (acc++[b]) l
 termination_by _ l=>l.length
theorem wM (acc:List UInt8):Bp acc []=(acc,[],false,0):=by rw [Bp]
theorem uP (acc:List UInt8) (b:UInt8) (l:List UInt8) (h:b.toNat=47):Bp acc (b::l)=(acc,l,true,0):=by rw [Bp.eq_def];simp [h]
theorem I8 (acc:List UInt8) (b:UInt8) (h:b.toNat=92):Bp acc [b]=([],[],false,20):=by rw [Bp.eq_def];simp [h]
theorem I9 (acc:List UInt8) (b c:UInt8) (l:List UInt8) (h:b.toNat=92) (hc:c.toNat=92∨c.toNat=47∨c.toNat=35):Bp acc (b::c::l)=Bp (acc++[c]) l:=by rw [Bp.eq_def];simp only [h];rw [if_neg (by decide),if_pos (by decide),if_pos hc]
theorem I_ (acc:List UInt8) (b c:UInt8) (l:List UInt8) (h:b.toNat=92) (hc:¬(c.toNat=92∨c.toNat=47∨c.toNat=35)):Bp acc (b::c::l)=([],[],false,20):=by rw [Bp.eq_def];simp only [h];rw [if_neg (by decide),if_pos (by decide),if_neg hc]
theorem lF (acc:List UInt8) (b:UInt8) (l:List UInt8) (h:b.toNat≠47) (h':b.toNat≠92):Bp acc (b::l)=Bp (acc++[b]) l:=by rw [Bp.eq_def];simp only [];rw [if_neg h,if_neg h']
def eB (l:List UInt8):List UInt8×List UInt8×Bool×Int:=Bp [] l
structure Cl where
 flag:Int
 kind:Int
 cross:Bool
 first:Int
 count:Int
structure Rl where
 kind:Int
 flag:Int
 cross:Bool
 strip:ByteArray
 add:ByteArray
 cond:ByteArray
 next:List Int
 line:Int
structure Fl where
 kind:Int
 charset:ByteArray
 qI:ByteArray
 s0:Int
 s1:Int
 s2:Int
 s3:Int
 s4:Int
 least:Int
 au:List (ByteArray×ByteArray)
 aI:List (List Int)
 cls:List Cl
 rls:List Rl
def wK:Fl:=⟨1,⟨#[]⟩,⟨#[]⟩,0,0,0,0,0,3,[],[],[],[]⟩
def xq:Cl:=⟨0,0,false,0,0⟩
def eH (cls:List Cl) (f:Int):Option Nat:=cls.findIdx? (fun c=>c.flag==f)
def iF (F:Fl) (f:Int):Option Cl:=F.cls.find? (fun c=>c.flag==f)
def aM (F:Fl) (f:Int):Bool:=F.s0==f||F.s1==f||F.s2==f||F.s3==f||F.s4==f||(iF F f).isSome
def jX (s:ByteArray):Int:=if s.size=0∨fitAll s=false then 21 else if 32 < s.size then 22 else 0
def jZ:ByteArray:=⟨#[48]⟩
def bL (none_:Bool) (s:ByteArray):Except Int ByteArray :=
 if none_=true∧s=jZ then .ok ⟨#[]⟩ else match eB s.data.toList with
  | (w,_,cut,e)=>if e≠0 then .error e else if cut=true then .error 114 else if jX (mkS w)≠0 then .error (jX (mkS w)) else .ok (mkS w)
def aQ (F:Fl) (s:ByteArray):List Int×Int :=
 if F.aI.length=0 then bS F.kind s.data.toList
 else if bI s.data.toList F.aI.length≠0∨aJ s.data.toList F.aI.length=0 then ([],13)
 else (F.aI.getD (aJ s.data.toList F.aI.length - 1).toNat [],0)
def gq (F:Fl) (s:ByteArray):Except Int Int :=
 if (jv F.kind s.data.toList).2≠0 then .error (jv F.kind s.data.toList).2
 else if aM F (jv F.kind s.data.toList).1=true then .error 115 else .ok (jv F.kind s.data.toList).1
abbrev Iy:ByteArray:=⟨#[70,76,65,71]⟩
abbrev Pw:ByteArray:=⟨#[83,69,84]⟩
abbrev Px:ByteArray:=⟨#[84,82,89]⟩
abbrev vJ:ByteArray:=⟨#[78,69,69,68,65,70,70,73,88]⟩
abbrev lZ:ByteArray:=⟨#[70,79,82,66,73,68,68,69,78,87,79,82,68]⟩
abbrev vK:ByteArray:=⟨#[75,69,69,80,67,65,83,69]⟩
abbrev vL:ByteArray:=⟨#[67,79,77,80,79,85,78,68,70,76,65,71]⟩
abbrev pW:ByteArray:=⟨#[78,79,83,85,71,71,69,83,84]⟩
abbrev Py:ByteArray:=⟨#[67,79,77,80,79,85,78,68,77,73,78]⟩
abbrev mR:ByteArray:=⟨#[82,69,80]⟩
abbrev wH:ByteArray:=⟨#[65,70]⟩
abbrev og:ByteArray:=⟨#[80,70,88]⟩
abbrev dY:ByteArray:=⟨#[83,70,88]⟩
def Qu:List ByteArray:=[Iy,Pw,Px,vJ,lZ,vK,vL,pW,Py,mR,wH,og,dY]
def bV (s:ByteArray):Nat:=Qu.findIdx (fun k=>decide (k=s))
def h_ (n:Nat):ByteArray:=Qu.getD n dY
def gL (k:Nat):Nat:=if k < 11 then 2 else 4
def lV (k:Nat):Bool:=(decide (3≤k)&&decide (k≤7))||(decide (10≤k)&&decide (k≤12))
abbrev Row:=Int×List ByteArray
structure Sx where
 fl:Fl
 rows:List Row
 heads:List ByteArray
 line:Int
abbrev RX:=Except (Int×Int) Sx
def aO (end_:Int) (ok:List ByteArray→Bool) (inn:Fl→Int→List ByteArray→Except Int Fl):Nat→Sx→RX
 | 0,S=>.ok S
 | n+1,S=>match S.rows with
   | []=>.error (end_,116)
   | (l,row)::rest=>if ok row=true then match inn S.fl l row with
      | .error c=>.error (l,c)
      | .ok F=>aO end_ ok inn n { fl:=F,rows:=rest,heads:=S.heads,line:=l }
     else .error (l,116)
def fieldAt (row:List ByteArray) (i:Nat):ByteArray:=row.getD i ⟨#[]⟩
def gV (F:Fl) (_:Int) (row:List ByteArray):Except Int Fl :=
 if row.length≠3 then .error 111 else match bL false (fieldAt row 1) with
  | .error c=>.error c
  | .ok a=>match bL true (fieldAt row 2) with
    | .error c=>.error c
    | .ok b=>.ok { F with au:=F.au++[(a,b)] }
def eT (F:Fl) (_:Int) (row:List ByteArray):Except Int Fl :=
 if row.length≠2 then .error 111 else if (bS F.kind (fieldAt row 1).data.toList).2≠0 then .error (bS F.kind (fieldAt row 1).data.toList).2
 else .ok { F with aI:=F.aI++[(bS F.kind (fieldAt row 1).data.toList).1] }
def o8 (w:List UInt8):Except Int ByteArray:=if mkS w=jZ then .ok ⟨#[]⟩ else if jX (mkS w)≠0 then .error (jX (mkS w)) else .ok (mkS w)
def nextR (F:Fl) (kind:Int) (rest:List UInt8) (cut:Bool):Except Int (List Int) :=
 if cut=true then (if kind≠2 then .error 118 else if (aQ F (mkS rest)).2≠0 then .error (aQ F (mkS rest)).2 else .ok (aQ F (mkS rest)).1) else .ok []
def je (row:List ByteArray):Except Int ByteArray :=
 if row.length=5 then (if fitAll (fieldAt row 4)=false then .error 21 else match gT (fieldAt row 4).data.toList with
  | .error c=>.error c
  | .ok ts=>.ok (mkS (dF ts)))
 else .ok ⟨#[46]⟩
def bK (F:Fl) (c:Cl) (line:Int) (row:List ByteArray):Except Int Rl :=
 if row.length≠4∧row.length≠5 then .error 111 else match bL true (fieldAt row 2) with
  | .error e=>.error e
  | .ok strip=>match eB (fieldAt row 3).data.toList with
    | (w,rest,cut,e)=>if e≠0 then .error e else match o8 w with
      | .error e=>.error e
      | .ok add=>match nextR F c.kind rest cut with
        | .error e=>.error e
        | .ok next=>match je row with
          | .error e=>.error e
          | .ok cond=>.ok ⟨c.kind,c.flag,c.cross,strip,add,cond,next,line⟩
def bZ (c:Cl) (F:Fl) (line:Int) (row:List ByteArray):Except Int Fl:=match bK F c line row with
 | .error e=>.error e
 | .ok r=>.ok { F with rls:=F.rls++[r] }
def fK (end_:Int) (S:Sx) (row:List ByteArray):RX:=match gq S.fl (fieldAt row 1) with
 | .error e=>.error (S.line,e)
 | .ok f=>if fieldAt row 2≠⟨#[89]⟩∧fieldAt row 2≠⟨#[78]⟩ then .error (S.line,114)
   else if bI (fieldAt row 3).data.toList 1024≠0 then .error (S.line,13)
   else if 1024 < (S.fl.rls.length:Int)+aJ (fieldAt row 3).data.toList 1024 then .error (S.line,117)
   else aO end_ (fun r=>decide (r.take 2=[fieldAt row 0,fieldAt row 1])) (bZ ⟨f,if fieldAt row 0=dY then 2 else 1,decide (fieldAt row 2=⟨#[89]⟩),S.fl.rls.length,aJ (fieldAt row 3).data.toList 1024⟩)
    (aJ (fieldAt row 3).data.toList 1024).toNat { S with fl:={ S.fl with cls:=S.fl.cls++[⟨f,if fieldAt row 0=dY then 2 else 1,decide (fieldAt row 2=⟨#[89]⟩),S.fl.rls.length,aJ (fieldAt row 3).data.toList 1024⟩] } }
abbrev o_:ByteArray:=⟨#[115,104,111,114,116]⟩
abbrev vw:ByteArray:=⟨#[108,111,110,103]⟩
abbrev Dz:ByteArray:=⟨#[110,117,109]⟩
def kindOf (s:ByteArray):Int:=if s=o_ then 1 else if s=vw then 2 else if s=Dz then 3 else 0
def eG (F:Fl) (i:Nat) (f:Int):Fl:=match i with
 | 0=>{ F with s0:=f }
 | 1=>{ F with s1:=f }
 | 2=>{ F with s2:=f }
 | 3=>{ F with s3:=f }
 | _=>{ F with s4:=f }
def jw (line:Int) (S:Sx):Except Int Fl→RX
 | .error e=>.error (line,e)
 | .ok F=>.ok { S with fl:=F }
def kL (S:Sx) (s:ByteArray):Except Int Fl:=if S.heads.any (fun h=>lV (bV h))=true then .error 113 else if kindOf s=0 then .error 114 else .ok { S.fl with kind:=kindOf s }
def oW (F:Fl) (s:ByteArray):Except Int Fl:=if fitAll s=false then .error 21 else .ok { F with charset:=s }
def xO (F:Fl) (s:ByteArray):Except Int Fl:=if (bT s).2≠0 then .error (bT s).2 else .ok { F with qI:=(bT s).1 }
def gX (F:Fl) (i:Nat) (s:ByteArray):Except Int Fl:=match gq F s with
 | .error e=>.error e
 | .ok f=>.ok (eG F i f)
def jI (F:Fl) (s:ByteArray):Except Int Fl:=if bI s.data.toList 64≠0∨aJ s.data.toList 64=0 then .error 13 else .ok { F with least:=aJ s.data.toList 64 }
def nW (end_:Int) (S:Sx) (s:ByteArray):RX:=if bI s.data.toList 256≠0 then .error (S.line,13) else aO end_ (fun r=>decide (r.take 1=[mR])) gV (aJ s.data.toList 256).toNat S
def jf (end_:Int) (S:Sx) (s:ByteArray):RX:=if S.heads.contains og=true∨S.heads.contains dY=true then .error (S.line,113)
 else if bI s.data.toList 1024≠0 then .error (S.line,13) else aO end_ (fun r=>decide (r.take 1=[wH])) eT (aJ s.data.toList 1024).toNat S
def iy (end_:Int) (S:Sx) (row:List ByteArray) (k:Nat):RX :=
 if k=0 then jw S.line S (kL S (fieldAt row 1))
 else if k=1 then jw S.line S (oW S.fl (fieldAt row 1))
 else if k=2 then jw S.line S (xO S.fl (fieldAt row 1))
 else if k < 8 then jw S.line S (gX S.fl (k - 3) (fieldAt row 1))
 else if k=8 then jw S.line S (jI S.fl (fieldAt row 1))
 else if k=9 then nW end_ S (fieldAt row 1)
 else if k=10 then jf end_ S (fieldAt row 1)
 else fK end_ S row
def iN (end_:Int) (S:Sx) (l:Int) (row:List ByteArray) (rest:List Row):RX :=
 if bV (fieldAt row 0)=13 then .error (l,110)
 else if row.length≠gL (bV (fieldAt row 0)) then .error (l,111)
 else if gL (bV (fieldAt row 0))=2∧S.heads.contains (fieldAt row 0)=true then .error (l,112)
 else match iy end_ { S with rows:=rest,line:=l } row (bV (fieldAt row 0)) with
  | .error e=>.error e
  | .ok S'=>.ok { S' with heads:=S'.heads++[fieldAt row 0] }
def dS (end_:Int):Nat→Sx→RX
 | 0,S=>.ok S
 | n+1,S=>match S.rows with
   | []=>.ok S
   | (l,row)::rest=>match iN end_ S l row rest with
     | .error e=>.error e
     | .ok S'=>dS end_ n S'
def j4 (F:Fl) (f:Int):Bool:=f==F.s0||(match iF F f with | some c=>c.kind==2 | none=>false)
def l9 (F:Fl):Option Int:=(F.rls.find? (fun r=>!(r.next.all (j4 F)))).map (·.line)
def gY (l:List UInt8):Except (Int×Int) Fl :=
 if 65536 < l.length then .error (0,10) else match dS ((aV l).length+1) (rowsOf (aC l)).length ⟨wK,rowsOf (aC l),[],0⟩ with
  | .error e=>.error e
  | .ok S=>match l9 S.fl with
    | some line=>.error (line,118)
    | none=>.ok S.fl
structure Kept (E:List Nat) (w w':World):Prop where
 os:w'.os=w.os
 tape:w'.tape=w.tape
 output:w'.output=w.output
 size:w.heap.size≤w'.heap.size
 block:∀k,k < w.heap.size→k∉E→w'.heap[k]?=w.heap[k]?
theorem Kept.refl (E:List Nat) (w:World):Kept E w w:=⟨rfl,rfl,rfl,Nat.le_refl _,fun _ _ _=>rfl⟩
theorem Kept.trans' {E F:List Nat} {a b c:World} (h:Kept E a b) (k:Kept F b c) (hF:∀x∈F,x∈E∨a.heap.size≤x):Kept E a c :=
 ⟨k.os.trans h.os,k.tape.trans h.tape,k.output.trans h.output,Nat.le_trans h.size k.size,fun i hi he =>
  (k.block i (Nat.lt_of_lt_of_le hi h.size) (fun hm=>by rcases hF i hm with h1 | h1;exact he h1;omega)).trans (h.block i hi he)⟩
theorem Kept.trans {E:List Nat} {a b c:World} (h:Kept E a b) (k:Kept E b c):Kept E a c:=h.trans' k (fun _ hx=>.inl hx)
theorem Kept.mono {E F:List Nat} {a b:World} (h:Kept E a b) (hF:∀x∈E,x∈F):Kept F a b:=⟨h.os,h.tape,h.output,h.size,fun i hi he=>h.block i hi (fun hm=>he (hF i hm))⟩
theorem Kept.of_below {E:List Nat} {w w':World} (h:Below w.heap.size w w'):Kept E w w':=⟨h.os,h.tape,h.output,h.size,fun k hk _=>h.block k hk⟩
theorem Kept.below {E:List Nat} {w w':World} {B:Nat} (h:Kept E w w') (hB:B≤w.heap.size) (hE:∀x∈E,B≤x):Below B w w' :=
 ⟨h.os,h.tape,h.output,h.size,fun k hk=>h.block k (by omega) (fun hm=>by have:=hE k hm;omega)⟩
theorem Kept.grown {w w':World} {r:Option Nat} {E:List Nat} (h:w.grownBy w' r) (hr:∀k,r=some k→k∈E):Kept E w w' :=
 ⟨h.os,h.tape,h.output,h.size,fun k hk he=>h.block k hk (fun e=>he (hr k e.symm))⟩
theorem Kept.drew {E:List Nat} {w w':World} (h:Kept E w w'):Kept E w w'.drew:=⟨h.os,h.tape,h.output,h.size,h.block⟩
theorem Kept.alloc {E:List Nat} {w w':World} (h:Kept E w w') (o:Obj):Kept E w (w'.alloc o) :=
 h.trans' (F:=[]) (Kept.of_below ((Below.refl _ _).alloc (Nat.le_refl _) _)) (fun _ hx=>by cases hx)
theorem Kept.set {E:List Nat} {w w':World} (h:Kept E w w') (b i:Nat) (v:Value) (hb:b∈E∨w.heap.size≤b):Kept E w (w'.setCell ⟨b,i,none⟩ v) :=
 h.trans' (F:=[b]) ⟨rfl,rfl,rfl,by simp [World.setCell],fun k _ he=>heap_setCell_other w' ⟨b,i,none⟩ k v (fun e=>he (by simp [e]))⟩ (fun x hx=>by simp at hx;subst hx;exact hb)
theorem Kept.cell {E:List Nat} {w w':World} (h:Kept E w w') {p:Addr} (hp:p.block < w.heap.size) (he:p.block∉E):w'.cell? p=w.cell? p:=World.cell?_of_block (h.block _ hp he)
theorem Kept.own {E:List Nat} {w w':World} {B e size n:Nat} {v:Value} {xs:List Value} (h:Kept E w w') (ho:w.ownsRow B e size v n xs) (hne:∀g,v.ownBlock=some g→g∉E):w'.ownsRow B e size v n xs:=by
 refine⟨ho.1,?_⟩
 rcases ho.2 with hn | ⟨g,cap,cur,rfl,hb,hgg,rest⟩
 ·exact .inl hn
 refine .inr ⟨g,cap,cur,rfl,hb,?_,rest⟩
 rw [h.block g (Array.getElem?_eq_some_iff.1 hgg).1 (hne g rfl)]
 exact hgg
theorem Kept.at {E:List Nat} {w w':World} (h:Kept E w w') {k:Nat} {o:Obj} (hk:w.heap[k]?=some o) (he:k∉E):w'.heap[k]?=some o:=(h.block k (block_lt hk) he).trans hk
attribute [local go_sem] Oper.semAt_some
theorem NM:(Tryz.prog.info? 133).map (fun i=>(i.zero,i.size,i.bytes))=some (some (.agg #[.int .i64 0,.slice none 0 0]),2,32):=by kernel_rfl
theorem aF {w:World} {B e size n:Nat} {v:Value} {xs:List Value} (h:w.ownsRow B e size v n xs):∃A cap,v=.slice A n cap:=by
 rcases h.2 with ⟨rfl,rfl⟩ | ⟨g,cap,cur,rfl,_⟩
 ·exact⟨_,_,rfl⟩
 exact⟨_,_,rfl⟩
theorem Df {w:World} {B e size n:Nat} {v:Value} {xs:List Value} (h:w.ownsRow B e size v n xs) (hn:n≠0):∃g cap,v=.slice (some ⟨g,0,none⟩) n cap∧n≤cap:=by
 rcases h.2 with ⟨_,h0⟩ | ⟨g,cap,cur,rfl,_,_,hc,_⟩
 ·exact absurd h0 hn
 exact⟨_,_,rfl,hc⟩
theorem DJ (s:ByteArray) (m:Int) (w:World) (h0:0 < w.heap.size) (hm:w.cell? ⟨0,0,none⟩=some (.int .i64 m)) :
  Calls Tryz.prog 41 #[.string s] w fun e W'=>∃v rs,e=.returned (.tuple #[v,.int .i64 (jB s)]) ∧
   W'.ownsRow w.heap.size 133 2 v rs.length (bq rs)∧gK W' rs∧dP rs=rowsOf (aC s.data.toList)∧Below w.heap.size w W':=by
 by_cases hbig:65536 < s.size
 ·have HE:Hid (aC s.data.toList=[]):=hid (by rw [aC,if_pos (by rw [ak];omega)])
  have HC:Hid (jB s=10):=hid (if_pos hbig)
  go_enter Tryz.func41,Tryz.ntmps41
  go_wp2_with fail
  refine bodyPost_ret (results_tmp2 rfl _ _ _) rfl ?_
  exact⟨.slice none 0 0,[],by rw [HC.o];rfl,World.ownsRow_nil _ _ _ _,(by intro r hr;cases hr),by rw [HE.o];rfl,Below.refl _ _⟩
 have hlen:=gZ s.data.toList;have HC:Hid (jB s=0):=hid (if_neg hbig)
 refine (callsIn_wide (n:=5)).1 ?_
 obtain⟨i0,hi,hz0,hz1,hz2⟩:=info_parts NM
 refine callsIn_of_wp_marks Tryz.func41 rfl trivial ?_ rfl
 simp only [Tryz.ntmps41,List.size_toArray,List.length_cons,List.length_nil,Nat.reduceAdd,Nat.reduceSub,Array.replicate_succ,Array.replicate_zero,List.push_toArray,List.append_toArray,List.nil_append,List.cons_append]
 gi_wp2_with (refine⟨trivial,?_⟩;gi_at_call 73;refine (I6 _ _ _).mono ?_;rintro e w' ⟨rfl,rfl⟩)
 have bO:=Boxed.new w 107 (.slice none 0 0);have bN:=Boxed.new (w.alloc (.cells #[.slice none 0 0] 107)) 9 (.string s);rw [World.size_alloc] at bN
 have hB0:Below w.heap.size w ((w.alloc (.cells #[.slice none 0 0] 107)).alloc (.cells #[.string s] 9)):=((Below.refl _ w).alloc (Nat.le_refl _) _).alloc (by simp) _
 refine wpIn_rangeFunc_ownG rfl (by omega) (gf:=105) (lb:=#[.pointer (some ⟨w.heap.size+1,0,none⟩)]) rfl trivial (enters_of Tryz.func105 (by kernel_rfl) rfl)
  (EB (5 - 1) (by omega) (w.heap.size+1) w.heap.size s h0 m _ (by simp) bN.cell ((hB0.cell (p:=⟨0,0,none⟩) h0).trans hm)) belowK_t (belowK_b (by simp;omega)) (Below.refl _ _) (fun _=>rfl)
  (fun pre W=>qF w.heap.size w.heap.size 107 133 W (rowsOf pre)∧Below w.heap.size w W)
  (fun _ _ _=>False)
  (OwnFrom.and (_root_.Go.Own.from (EC w.heap.size w.heap.size 107 133 rowsOf) _) (ownFrom_below (Nat.le_refl _) (by simp;omega)))
  (fun _ _ _ _ _ hs _ _=>hs)
  ⟨⟨[],_,bO.alloc _,World.ownsRow_nil _ _ _ _,(by intro r hr;cases hr),rfl⟩,hB0⟩
  (fun x=>{ tmps:=#[.string s,undef,.slice none 0 0,.int .i64 0,.pointer (some ⟨w.heap.size,0,none⟩),.int .i64 x.1,.string (clamp x.2),undef,undef,undef,.string s,.int .i64 s.size,.bool (decide (65536 < (s.size:Int))),.string s,.func (.func 105) #[] #[.pointer (some ⟨w.heap.size+1,0,none⟩)],.int .i64 x.1,.string (clamp x.2),undef,undef,undef,undef,undef,undef,undef,undef,undef,undef,undef,undef,undef,undef,undef,undef,undef,undef,undef,undef,undef,undef,undef,undef,undef,undef,undef],defers:=[] }) ?assign ?body ?done ?stop
 case assign =>
  intro l x W K hK
  gi_wp2
  exact hK
 case body =>
  rintro l pre x W ⟨Wy,hB⟩ hlt
  have Wz:=hid Wy;obtain⟨rs,v,hv,hrow,hrd,habs⟩:=Wy
  have hrl:rs.length≤65536:=by
   have h1:rs.length=(rowsOf pre).length:=by rw [←habs];simp [dP]
   have h2:=nL pre
   omega
  have HV:=hid hv;have hc:=hv.cell;have hcl:=EA x.2
  have hn1:1≤5 - 1 - 1:=by omega
  obtain⟨sl,hsl⟩:∃sl,clamp x.2=sl:=⟨_,rfl⟩;rw [hsl] at hcl ⊢;have qL:=hid hrow;have t_:=hid hrd;have rM:=hid habs
  have RU:Hid (rowsOf (pre++[x])=rowsOf pre++rowOf x.1 sl):=hid (by rw [uV,hsl])
  have hlp:=nL pre;clear hrow hrd habs hsl hv;have hfl:=wO sl
  by_cases hn0:(aH sl).length=0
  ·have xg:Hid (rowsOf (pre++[x])=rowsOf pre):=hid (by rw [RU.o,rowOf,List.eq_nil_of_length_eq_zero hn0];simp [mK])
   gi_wp2_with (refine⟨trivial,?_⟩;gi_at_call 74;refine (CallsIn.inRound l (callsIn_wide.2 (wP sl _ (by omega)))).mono ?_;rintro e w1 ⟨vf,rfl,of⟩;have OF:=hid of;obtain⟨Ag,cg,rfl⟩:=aF of.own;rw [hn0] at *;have HB1:=hid of.below;clear of)
   gi_loopw [7,21] (fun fv i wr=>wr=w1∧fv=.slice Ag 0 cg∧i=.int .i64 0) (fun _ _ _=>1)
   case atStart=>exact⟨rfl,rfl,rfl⟩
   case round =>
   obtain⟨rfl,rfl,rfl⟩:=hrel
   gi_wp2
   exact⟨iI HB1.o,HB1.o.mono hB.size,by rw [xg.o];exact Wz.o.keep HB1.o,hB.trans (HB1.o.mono hB.size)⟩
  gi_wp2_with (refine⟨trivial,?_⟩;gi_at_call 74;refine (CallsIn.inRound l (callsIn_wide.2 (wP sl _ (by omega)))).mono ?_;rintro e w1 ⟨vf,rfl,of⟩;have OF:=hid of;obtain⟨g,cg,rfl,hcg⟩:=Df of.own hn0;have HB1:=hid of.below;clear of)
  gi_loopw [7,21] (fun fv i wr=>wr=w1∧fv=.slice (some ⟨g,0,none⟩) (aH sl).length cg∧∃k:Nat,k≤(aH sl).length∧i=.int .i64 k∧∀f∈(aH sl).take k,sharp f=false) (fun _ i _=>(aH sl).length - (intOf i).toNat)
  case atStart=>exact⟨rfl,rfl,0,Nat.zero_le _,rfl,by simp⟩
  case round =>
  obtain⟨rfl,rfl,k,hk,rfl,hsh⟩:=hrel
  have LA:=hid hsh;have hv1:Boxed wr w.heap.size 107 v:=(HB1.o.block _ HV.o.lt).trans HV.o;have XP:=hid hv1;have hcw:=hv1.cell;have Bq:=hid (own_below qL.o HB1.o)
  have WA:Hid (gK wr rs):=hid fun r hr=>(t_.o r hr).keep HB1.o
  have KL:w.heap.size≤wr.heap.size:=Nat.le_trans hB.size HB1.o.size;clear hsh hv1
  by_cases hkn:k < (aH sl).length
  ·have hfp:=wZ sl (aH sl)[k] (List.getElem_mem _)
   have hcf:wr.cell? ⟨g,k,none⟩=some (.string (aH sl)[k]):=by
    have:=OF.out.own.cells (g:=g) rfl k (.string (aH sl)[k]) (iX _ _ hkn)
    rw [gJ] at this;exact this
   have hq0:=w_ (aH sl)[k] hfp
   cases hq:sharp (aH sl)[k]
   ·have q:((((aH sl)[k])[0].toNat:Int)==35)=false:=by rw [←hq0];exact hq
    have HN:Hid (∀f∈(aH sl).take (k+1),sharp f=false):=hid fun f hf=>by
     rw [List.take_succ_eq_append_getElem hkn] at hf
     rcases List.mem_append.1 hf with h | h
     ·exact LA.o f h
     rw [List.mem_singleton.1 h];exact hq
    clear hq hq0
    gi_wp2
    go_roundw
    case rel=>exact⟨trivial,rfl,k+1,by omega,by go_num,HN.o⟩
    case measure=>simp [intOf]<;>omega
   have q:((((aH sl)[k])[0].toNat:Int)==35)=true:=by rw [←hq0];exact hq
   have HK:Hid (mK (aH sl)=(aH sl).take k):=hid (zQ _ k hkn LA.o hq)
   have hkc:k≤cg:=by omega
   clear hq hq0
   by_cases hk0:0 < k
   ·have hlk:((aH sl).take k).length=k:=by rw [List.length_take];omega
    have xg:Hid (rowsOf (pre++[x])=rowsOf pre++[(x.1,(aH sl).take k)]):=hid (by
     rw [RU.o,rowOf,HK.o,if_neg (by intro h;rw [h] at hlk;simp at hlk;omega)])
    have HR:Hid (qH wr 9 (.slice (some ⟨g,0,none⟩) k k) ((aH sl).take k).length (bn ((aH sl).take k))):=hid (by
     rw [hlk]
     have:=(qH.aN OF.out.own).front hk
     simpa [bn,List.map_take] using this)
    clear hlk
    gi_wp2_with (gi_at_builtin;refine wpListIn_append_own _ rfl _ _ 107 rfl w.heap.size 133 i0 (.agg #[.int .i64 0,.slice none 0 0]) 2 32 Tryz.underlying107 hi hz0 hz1 hz2 rfl (by decide) _ _ _ rfl (Bq.o.alloc _) ⟨wr.heap.size,0,none⟩ 1 1 [.int .i64 x.1,.slice (some ⟨g,0,none⟩) k k] rfl rfl (Bo _ #[.int .i64 x.1,.slice (some ⟨g,0,none⟩) k k] _) (by simp [Value.oneCell']) (by unfold maxLen;omega) (by omega) (by have:=KL;simp;omega) ?_;intro v' w2 hown' hgrow _;obtain⟨g',cap',rfl⟩:=ownsRow_succ hown';have HP:=hid (Bl (r:=(x.1,.slice (some ⟨g,0,none⟩) k k,(aH sl).take k)) (by decide) (by decide) (by decide) XP.o Bq.o WA.o rM.o HR.o KL (Nat.le_refl _) hown' hgrow);obtain⟨hv1,_,_,_,_⟩:=XP.o.appended (by decide) Bq.o KL (Nat.le_refl _) hown' hgrow;have hc1:=hv1.cell;have hf1:=hv1.frozen;clear hown' hgrow hv1)
    exact⟨(iI HB1.o).trans (HP.o.1.from _),(HB1.o.mono hB.size).trans HP.o.2.1,by rw [xg.o];exact HP.o.2.2,(hB.trans (HB1.o.mono hB.size)).trans HP.o.2.1⟩
   have xg:Hid (rowsOf (pre++[x])=rowsOf pre):=hid (by rw [RU.o,rowOf,HK.o,show k=0 by omega];simp)
   gi_wp2
   exact⟨iI HB1.o,HB1.o.mono hB.size,by rw [xg.o];exact Wz.o.keep HB1.o,hB.trans (HB1.o.mono hB.size)⟩
  obtain rfl:k=(aH sl).length:=by omega
  have HK:Hid (mK (aH sl)=aH sl):=hid (Dc _ (by intro f hf;exact LA.o f (by rw [List.take_length];exact hf)))
  have xg:Hid (rowsOf (pre++[x])=rowsOf pre++[(x.1,aH sl)]):=hid (by
   rw [RU.o,rowOf,HK.o,if_neg (by intro h;rw [h] at hn0;exact hn0 rfl)])
  have HR:Hid (qH wr 9 (.slice (some ⟨g,0,none⟩) (aH sl).length cg) (aH sl).length (bn (aH sl))):=hid (qH.aN OF.out.own)
  gi_wp2_with (gi_at_builtin;refine wpListIn_append_own _ rfl _ _ 107 rfl w.heap.size 133 i0 (.agg #[.int .i64 0,.slice none 0 0]) 2 32 Tryz.underlying107 hi hz0 hz1 hz2 rfl (by decide) _ _ _ rfl (Bq.o.alloc _) ⟨wr.heap.size,0,none⟩ 1 1 [.int .i64 x.1,.slice (some ⟨g,0,none⟩) (aH sl).length cg] rfl rfl (Bo _ #[.int .i64 x.1,.slice (some ⟨g,0,none⟩) (aH sl).length cg] _) (by simp [Value.oneCell']) (by unfold maxLen;omega) (by omega) (by have:=KL;simp;omega) ?_;intro v' w2 hown' hgrow _;obtain⟨g',cap',rfl⟩:=ownsRow_succ hown';have HP:=hid (Bl (r:=(x.1,.slice (some ⟨g,0,none⟩) (aH sl).length cg,aH sl)) (by decide) (by decide) (by decide) XP.o Bq.o WA.o rM.o HR.o KL (Nat.le_refl _) hown' hgrow);obtain⟨hv1,_,_,_,_⟩:=XP.o.appended (by decide) Bq.o KL (Nat.le_refl _) hown' hgrow;have hc1:=hv1.cell;have hf1:=hv1.frozen;clear hown' hgrow hv1)
  exact⟨(iI HB1.o).trans (HP.o.1.from _),(HB1.o.mono hB.size).trans HP.o.2.1,by rw [xg.o];exact HP.o.2.2,(hB.trans (HB1.o.mono hB.size)).trans HP.o.2.1⟩
 case done =>
  rintro D ys W hD rfl ⟨⟨rs,v,hv,hrow,hrd,habs⟩,hB⟩ hK
  have hc:=hv.cell;have t_:=hid hrd;have rM:=hid habs;clear hrd habs
  gi_wp2
  refine⟨by simp,.inl ⟨_,_,rfl,run_takeDeferred hK,?_⟩⟩
  exact⟨_,results_tmp2 rfl _ _ _,v,rs,by rw [HC.o];rfl,ownsRow_putObj hrow _ hK rfl,fun r hr=>(t_.o r hr).kept (grownBy_putObj' W D _) (fun q e=>by cases e;exact⟨_,hK,Bj rfl _⟩),rM.o,hB.trans (belowK_b (w:=w) (Nat.le_refl _) W D _ _ (by simp at hD;omega) hK rfl rfl)⟩
 case stop =>
 rintro D c pre W _ _ h _
 exact h.elim
def aZ (L:List Nat) (w:World) (L':List Nat) (w':World):Prop:=Kept L w w'∧∀x∈L',x∈L∨w.heap.size≤x
theorem aZ.refl (L:List Nat) (w:World):aZ L w L w:=⟨Kept.refl _ _,fun _ h=>.inl h⟩
theorem aZ.trans {L L' L'':List Nat} {w w' w'':World} (h:aZ L w L' w') (k:aZ L' w' L'' w''):aZ L w L'' w'' :=
 ⟨h.1.trans' k.1 h.2,fun x hx=>by
  rcases k.2 x hx with h1 | h1
  ·exact h.2 x h1
  ·exact .inr (Nat.le_trans h.1.size h1)⟩
theorem aZ.of_below {L:List Nat} {w w':World} (h:Below w.heap.size w w'):aZ L w L w':=⟨Kept.of_below h,fun _ h=>.inl h⟩
def FO (w:World) (L:List Nat) (v:Value) (zs:List Int):Prop :=
 ∃(p:Option Addr) (c:Nat),v=.slice p zs.length c∧zs.length≤c∧(zs.length=0∨∃b off,p=some ⟨b,off,none⟩∧b∉L∧∀j,j < zs.length→w.cell? ⟨b,off+j,none⟩=some (.int .u16 (zs.getD j 0)))
theorem FO.fs {w:World} {L:List Nat} {v:Value} {zs:List Int} (h:FO w L v zs):FS w v zs:=by
 obtain⟨p,c,hv,hc,h⟩:=h
 exact⟨p,c,hv,hc,h.imp id (fun ⟨b,off,hp,_,h2⟩=>⟨b,off,hp,h2⟩)⟩
theorem FO.keep {w w':World} {L L':List Nat} {v:Value} {zs:List Int} (h:FO w L v zs) (hg:aZ L w L' w'):FO w' L' v zs:=by
 obtain⟨p,c,hv,hc,h⟩:=h
 rcases Nat.eq_zero_or_pos zs.length with h0 | h0
 ·exact⟨p,c,hv,hc,.inl h0⟩
 obtain⟨b,off,hp,hb,h2⟩:=h.resolve_left (by omega)
 have hlt:=block_lt_of_cell? w _ (h2 0 h0)
 exact⟨p,c,hv,hc,.inr ⟨b,off,hp,fun hm=>by
  rcases hg.2 b hm with h3 | h3
  ·exact hb h3
  exact absurd hlt (by simpa using h3),fun j hj=>(hg.1.cell (p:=⟨b,off+j,none⟩) hlt hb).trans (h2 j hj)⟩⟩
theorem FO.Ja {w w':World} {L:List Nat} {v:Value} {zs:List Int} (h:FN w.heap.size w' v zs) (hL:∀x∈L,x < w.heap.size):FO w' L v zs:=by
 obtain⟨p,c,hv,hc,h⟩:=h
 refine⟨p,c,hv,hc,h.imp id ?_⟩
 rintro⟨b,off,hp,hb,h2⟩
 refine⟨b,off,hp,fun hm=>by have:=hL b hm;omega,fun j hj=>?_⟩
 have h3:=(h2 j (by simpa using hj)).1
 simpa [List.getD,hj] using h3
def eX (w:World) (L:List Nat) (e size:Nat) (v:Value) (n:Nat) (xs:List Value):Prop:=w.ownsRow 0 e size v n xs∧∀g,v.ownBlock=some g→g∈L
theorem eX.fP (w:World) (L:List Nat) (e size:Nat):eX w L e size (.slice none 0 0) 0 []:=⟨World.ownsRow_nil _ _ _ _,fun g h=>by simp [Value.ownBlock] at h⟩
theorem eX.keep {w w':World} {L L' E:List Nat} {e size n:Nat} {v:Value} {xs:List Value} (h:eX w L e size v n xs) (hk:Kept E w w') (hne:∀g,v.ownBlock=some g→g∉E) (hL:∀x∈L,x∈L'):eX w' L' e size v n xs :=
 ⟨hk.own h.1 hne,fun g hg=>hL g (h.2 g hg)⟩
theorem eX.ty {w:World} {L:List Nat} {e size n:Nat} {v:Value} {xs:List Value} (h:eX w L e size v n xs) (g:Nat) (hg:v.ownBlock=some g):∃cur fr,w.heap[g]?=some (.cells cur e fr):=by
 rcases h.1.2 with ⟨rfl,_⟩ | ⟨g',cap,cur,rfl,_,hb,_⟩
 ·simp [Value.ownBlock] at hg
 obtain rfl:g'=g:=by simpa [Value.ownBlock] using hg
 exact⟨cur,_,hb⟩
abbrev uM (s:ByteArray):Lit:=.string s.data.toList
abbrev NN (f:Int):Lit:=.int .u16 f
theorem jM:Keyed Tryz.prog 9:=string_keyed Tryz.underlying9
theorem tO:Keyed Tryz.prog 28:=int_keyed Tryz.underlying28
theorem yO (w:World):(zeroValue 3).run Tryz.prog w=.ok (.int .i64 0) w:=by kernel_rfl
def mW (w:World) (b n:Nat) (f:ByteArray→Int):Prop:=∃D:DataW Unit,w.ownsMap Tryz.prog 9 (plainElem Tryz.prog 3) b n D∧∀s:ByteArray,D.atKey (uM s) (.lit (.int .i64 0))=.lit (.int .i64 (f s))
def ow (w:World) (b n:Nat) (f:Int→Int):Prop:=∃D:DataW Unit,w.ownsMap Tryz.prog 28 (plainElem Tryz.prog 3) b n D∧∀x:Int,D.atKey (NN x) (.lit (.int .i64 0))=.lit (.int .i64 (f x))
def xP (w:World) (b n:Nat) (f:Int→Option Nat):Prop:=∃D:DataW Unit,w.ownsMap Tryz.prog 28 (plainElem Tryz.prog 3) b n D∧∀x:Int,Maps.has D (NN x)=(f x).isSome∧D.atKey (NN x) (.lit (.int .i64 0))=.lit (.int .i64 ((f x).getD 0:Nat))
theorem Cw {a b:Int} (h:(DataW.lit (.int .i64 a):DataW Unit)=.lit (.int .i64 b)):a=b:=by
 cases h;rfl
theorem mW.keep {w w':World} {E:List Nat} {b n:Nat} {f:ByteArray→Int} (h:mW w b n f) (hk:Kept E w w') (hb:b∉E):mW w' b n f:=by
 obtain⟨D,⟨es,clock,hm,F,hs,hD⟩,h2⟩:=h
 exact⟨D,⟨es,clock,hk.at hm hb,F,hs,hD⟩,h2⟩
theorem ow.keep {w w':World} {E:List Nat} {b n:Nat} {f:Int→Int} (h:ow w b n f) (hk:Kept E w w') (hb:b∉E):ow w' b n f:=by
 obtain⟨D,⟨es,clock,hm,F,hs,hD⟩,h2⟩:=h
 exact⟨D,⟨es,clock,hk.at hm hb,F,hs,hD⟩,h2⟩
theorem xP.keep {w w':World} {E:List Nat} {b n:Nat} {f:Int→Option Nat} (h:xP w b n f) (hk:Kept E w w') (hb:b∉E):xP w' b n f:=by
 obtain⟨D,⟨es,clock,hm,F,hs,hD⟩,h2⟩:=h
 exact⟨D,⟨es,clock,hk.at hm hb,F,hs,hD⟩,h2⟩
theorem mW.is {w:World} {b n:Nat} {f:ByteArray→Int} (h:mW w b n f):∃es c,w.heap[b]?=some (.map es c):=by
 obtain⟨D,⟨es,clock,hm,_⟩,_⟩:=h
 exact⟨es,clock,hm⟩
theorem ow.is {w:World} {b n:Nat} {f:Int→Int} (h:ow w b n f):∃es c,w.heap[b]?=some (.map es c):=by
 obtain⟨D,⟨es,clock,hm,_⟩,_⟩:=h
 exact⟨es,clock,hm⟩
theorem xP.is {w:World} {b n:Nat} {f:Int→Option Nat} (h:xP w b n f):∃es c,w.heap[b]?=some (.map es c):=by
 obtain⟨D,⟨es,clock,hm,_⟩,_⟩:=h
 exact⟨es,clock,hm⟩
theorem G8 {w:World} {b g e:Nat} {es:Array MapEntry} {c:Nat} {cur:Array Value} {fr:Nat×Nat} (h:w.heap[b]?=some (.map es c)) (h2:w.heap[g]?=some (.cells cur e fr)):b≠g:=by
 rintro rfl;rw [h] at h2;cases h2
theorem KM {w:World} {b g e e':Nat} {cur cur':Array Value} {fr fr':Nat×Nat} (h:w.heap[b]?=some (.cells cur e fr)) (h2:w.heap[g]?=some (.cells cur' e' fr')) (hne:e≠e'):b≠g:=by
 rintro rfl;rw [h] at h2;cases h2;exact hne rfl
theorem mW.look {w:World} {b n:Nat} {f:ByteArray→Int} (h:mW w b n f) (s:ByteArray) (hs:s.size≤maxLen):(Instr.lookup 117 (.map (some b)) (.string s) false).run Tryz.prog w=.ok (.int .i64 (f s)) w:=by
 obtain⟨D,hD,h2⟩:=h
 obtain⟨c,hrun,hat,_⟩:=hD.lookup_int jM Tryz.underlying117 Tryz.underlying3 (yO w) (keyOf_string_mk Tryz.underlying9 hs);have e:=Cw ((h2 s).symm.trans hat);rw [hrun,←e]
theorem ow.look {w:World} {b n:Nat} {f:Int→Int} (h:ow w b n f) (x:Int) (hx:0≤x∧x≤65535):(Instr.lookup 114 (.map (some b)) (.int .u16 x) false).run Tryz.prog w=.ok (.int .i64 (f x)) w:=by
 obtain⟨D,hD,h2⟩:=h
 obtain⟨c,hrun,hat,_⟩:=hD.lookup_int tO Tryz.underlying114 Tryz.underlying3 (yO w) (keyOf_int_mk Tryz.underlying28 (by simp [Lit.wf,IntKind.min,IntKind.max,IntKind.signed,IntKind.bits];omega))
 have e:=Cw ((h2 x).symm.trans hat);rw [hrun,←e]
theorem xP.look {w:World} {b n:Nat} {f:Int→Option Nat} (h:xP w b n f) (x:Int) (hx:0≤x∧x≤65535):(Instr.lookup 114 (.map (some b)) (.int .u16 x) true).run Tryz.prog w=.ok (.tuple #[.int .i64 ((f x).getD 0:Nat),.bool (f x).isSome]) w:=by
 obtain⟨D,hD,h2⟩:=h
 obtain⟨h3,h4⟩:=h2 x
 obtain⟨v,ps,hrun,hv⟩:=hD.look_ok tO Tryz.underlying114 (yO w) (plainElem_int Tryz.underlying3 (by decide)) (keyOf_int_mk Tryz.underlying28 (a:=x) (by simp [Lit.wf,IntKind.min,IntKind.max,IntKind.signed,IntKind.bits];omega))
 obtain⟨c,rfl,hc,_⟩:=plainElem_int_inv Tryz.underlying3 hv;have e:=Cw (h4.symm.trans (congrArg Prod.fst hc));rw [hrun,h3,e]
theorem l5 {w w':World} {b:Nat} (h:w.grownBy w' (some b)):Kept [b] w w':=Kept.grown h (fun k hk=>by simpa using hk.symm)
theorem mW.store {w:World} {b n:Nat} {f:ByteArray→Int} (h:mW w b n f) (s:ByteArray) (hs:s.size≤maxLen) (c:Int) (hc:0≤c∧c≤65536) (hn:n < 65536) :
  ∃w',(Instr.mapUpdate 117 (.map (some b)) (.string s) (.int .i64 c)).run Tryz.prog w=.ok () w'∧mW w' b (n+1) (fun t=>if t=s then c else f t)∧Kept [b] w w':=by
 obtain⟨D,hD,h2⟩:=h
 obtain⟨w',hrun,hD',hg⟩:=hD.update jM Tryz.underlying117 (by unfold maxLen;omega) (keyOf_string_mk Tryz.underlying9 hs) (plainElem_int Tryz.underlying3 (a:=c) (by simp [Lit.wf,IntKind.min,IntKind.max,IntKind.signed,IntKind.bits];omega))
 refine⟨w',hrun,⟨_,hD',fun t=>?_⟩,l5 hg⟩
 show _=DataW.lit (.int .i64 (if t=s then c else f t))
 by_cases ht:t=s
 ·subst ht
  rw [if_pos rfl]
  exact Maps.atKey_put_same hD.isMap (by trivial) _ _
 rw [if_neg ht,Maps.atKey_put_other (by
  intro e;injection e with e
  exact ht (by obtain⟨⟨a⟩⟩:=t;obtain⟨⟨b⟩⟩:=s;simp at e;rw [e])),h2 t]
theorem ow.store {w:World} {b n:Nat} {f:Int→Int} (h:ow w b n f) (x:Int) (hx:0≤x∧x≤65535) (c:Int) (hc:0≤c∧c≤65536) (hn:n < 131072) :
  ∃w',(Instr.mapUpdate 114 (.map (some b)) (.int .u16 x) (.int .i64 c)).run Tryz.prog w=.ok () w'∧ow w' b (n+1) (fun t=>if t=x then c else f t)∧Kept [b] w w':=by
 obtain⟨D,hD,h2⟩:=h
 obtain⟨w',hrun,hD',hg⟩:=hD.update tO Tryz.underlying114 (by unfold maxLen;omega) (keyOf_int_mk Tryz.underlying28 (a:=x) (by simp [Lit.wf,IntKind.min,IntKind.max,IntKind.signed,IntKind.bits];omega)) (plainElem_int Tryz.underlying3 (a:=c) (by simp [Lit.wf,IntKind.min,IntKind.max,IntKind.signed,IntKind.bits];omega))
 refine⟨w',hrun,⟨_,hD',fun t=>?_⟩,l5 hg⟩
 show _=DataW.lit (.int .i64 (if t=x then c else f t))
 by_cases ht:t=x
 ·subst ht
  rw [if_pos rfl]
  exact Maps.atKey_put_same hD.isMap (by trivial) _ _
 rw [if_neg ht,Maps.atKey_put_other (by intro e;injection e with _ e;exact ht e),h2 t]
theorem xP.store {w:World} {b n:Nat} {f:Int→Option Nat} (h:xP w b n f) (x:Int) (hx:0≤x∧x≤65535) (c:Nat) (hc:c≤65536) (hn:n < 65536) :
  ∃w',(Instr.mapUpdate 114 (.map (some b)) (.int .u16 x) (.int .i64 c)).run Tryz.prog w=.ok () w'∧xP w' b (n+1) (fun t=>if t=x then some c else f t)∧Kept [b] w w':=by
 obtain⟨D,hD,h2⟩:=h
 obtain⟨w',hrun,hD',hg⟩:=hD.update tO Tryz.underlying114 (by unfold maxLen;omega) (keyOf_int_mk Tryz.underlying28 (a:=x) (by simp [Lit.wf,IntKind.min,IntKind.max,IntKind.signed,IntKind.bits];omega)) (plainElem_int Tryz.underlying3 (a:=(c:Int)) (by simp [Lit.wf,IntKind.min,IntKind.max,IntKind.signed,IntKind.bits];omega))
 refine⟨w',hrun,⟨_,hD',fun t=>?_⟩,l5 hg⟩
 show Maps.has _ _=(if t=x then some c else f t).isSome∧_=DataW.lit (.int .i64 (((if t=x then some c else f t).getD 0:Nat):Int))
 by_cases ht:t=x
 ·subst ht
  rw [if_pos rfl]
  exact⟨by rw [Maps.has_put_same hD.isMap (by trivial)];rfl,by rw [Maps.atKey_put_same hD.isMap (by trivial)];rfl⟩
 have hne:NN t≠NN x:=by intro e;injection e with _ e;exact ht e
 rw [if_neg ht]
 exact⟨by rw [Maps.has_put_other hne];exact (h2 t).1,by rw [Maps.atKey_put_other hne];exact (h2 t).2⟩
structure Ids where
 rb:Nat
 fb:Nat
 mb:Nat
 sb:Nat
 tb:Nat
structure Vs where
 rows:Value
 au:Value
 aI:Value
 cls:Value
 rls:Value
 nxs:Value
def bB (rs:List (ByteArray×ByteArray)):List Value:=rs.flatMap fun r=>[.string r.1,.string r.2]
def bG (cs:List Cl):List Value:=cs.flatMap fun c=>[.int .u16 c.flag,.int .i64 c.kind,.bool c.cross,.int .i64 c.first,.int .i64 c.count]
def aK (rs:List (Rl×Value)):List Value:=rs.flatMap fun r=>[.int .i64 r.1.kind,.int .u16 r.1.flag,.bool r.1.cross,.string r.1.strip,.string r.1.add,.string r.1.cond,r.2]
def gB (w:World) (v:Value) (rows:List Row):Prop:=∃rs:List nT,dP rs=rows∧Rd w 2 v rs.length (bq rs)∧gK w rs
def pq (i:Ids) (v:Vs) (F:Fl):Array Value:=#[.int .i64 F.kind,.string F.charset,.string F.qI,.int .u16 F.s0,.int .u16 F.s1,.int .u16 F.s2,.int .u16 F.s3,.int .u16 F.s4,.int .i64 F.least,v.au,v.aI,v.cls,v.rls,.map (some i.mb)]
def KN (i:Ids) (v:Vs) (E:Int) (S:Sx):Array Value:=#[.pointer (some ⟨i.fb,0,none⟩),v.rows,.int .i64 S.line,.int .i64 E,.map (some i.sb),.map (some i.tb),v.nxs]
def dX (F:Fl) (n:Nat):Int:=match n with
 | 0=>F.s0 | 1=>F.s1 | 2=>F.s2 | 3=>F.s3 | 4=>F.s4 | _=>0
def Rv (x:Int):Nat:=if x=0 then 0 else 1
def CQ (F:Fl):Nat:=Rv F.s0+Rv F.s1+Rv F.s2+Rv F.s3+Rv F.s4
def cB (F:Fl) (f:Int):Int:=if f=0 then 0 else if aM F f=true then 1 else 0
structure Bd (kh k:Nat) (S:Sx):Prop where
 row:∀r∈S.rows,r.2≠[]∧r.2.length≤65536∧(∀f∈r.2,f.size≤65536)∧0≤r.1∧r.1≤65536
 heads:S.heads.length+S.rows.length+kh≤65536
 vM:∀h∈S.heads,h.size≤65536
 au:S.fl.au.length+S.rows.length+k≤65536
 aI:S.fl.aI.length+S.rows.length+k≤65536
 cls:S.fl.cls.length+S.rows.length+k≤65536
 rls:S.fl.rls.length+S.rows.length+k≤65536
 flags:∀c∈S.fl.cls,0 < c.flag∧c.flag≤65535
 sets:∀a∈S.fl.aI,canon a=a∧∀x∈a,0≤x∧x≤65535
 nexts:∀r∈S.fl.rls,canon r.next=r.next∧∀x∈r.next,0≤x∧x≤65535
 kind:1≤S.fl.kind∧S.fl.kind≤3
 sp:∀n,0≤dX S.fl n∧dX S.fl n≤65535
 line:0≤S.line∧S.line≤65537
structure bR (w0 w:World) (L:List Nat) (i:Ids) (v:Vs) (E:Int) (S:Sx) (nx:List Int) (tf:Int→Int) (tn:Nat) (cf:Int→Option Nat) (cn:Nat):Prop where
 base:Below w0.heap.size w0 w
 hl:∀x∈L,w0.heap.size≤x∧x < w.heap.size
 vN:i.rb∈L
 oh:i.fb∈L
 Fg:i.mb∈L
 Gb:i.sb∈L
 Fy:i.tb∈L
 maps:i.mb≠i.sb∧i.mb≠i.tb∧i.sb≠i.tb
 lT:w.heap[i.rb]?=some (.cells (KN i v E S) 119 (0,0))
 file:w.heap[i.fb]?=some (.cells (pq i v S.fl) 116 (0,0))
 rows:gB w0 v.rows S.rows
 seen:mW w i.sb S.heads.length (fun s=>S.heads.count s)
 taken:ow w i.tb tn tf
 qN:xP w i.mb cn cf
 au:eX w L 145 2 v.au S.fl.au.length (bB S.fl.au)
 aI:∃us:List Value,eX w L 29 1 v.aI S.fl.aI.length us∧us.length=S.fl.aI.length∧∀(k:Nat) u a,us[k]?=some u→S.fl.aI[k]?=some a→FO w L u a
 cls:eX w L 99 5 v.cls S.fl.cls.length (bG S.fl.cls)
 rls:∃rs:List (Rl×Value),rs.map (·.1)=S.fl.rls∧eX w L 31 7 v.rls rs.length (aK rs)∧∀r∈rs,FO w L r.2 r.1.next
 nxs:eX w L 3 1 v.nxs nx.length (nx.map (Value.int .i64))
def RM (w0 w:World) (L:List Nat) (i:Ids) (E:Int) (kh k:Nat) (S:Sx):Prop:=Bd kh k S∧∃v,bR w0 w L i v E S (S.fl.rls.map (·.line)) (cB S.fl) (CQ S.fl+S.fl.cls.length) (eH S.fl.cls) S.fl.cls.length
theorem qo (s:ByteArray):bV s≤13:=List.findIdx_le_length
theorem nA (s:ByteArray) (h:bV s≠13):s=h_ (bV s):=by
 have hl:bV s < Qu.length:=by have:=qo s;show _ < 13;omega
 have:=List.findIdx_getElem (p:=fun k=>decide (k=s)) (xs:=Qu) (w:=hl)
 simp only [decide_eq_true_eq] at this;unfold h_
 rw [List.getD,List.getElem?_eq_getElem hl]
 exact this.symm
theorem EF:∀n,n < 13→bV (h_ n)=n:=by decide
theorem sV (s:ByteArray) (n:Nat) (hn:n < 13):bV s=n↔s=h_ n :=
 ⟨fun h=>by have:=nA s (by omega);rwa [h] at this,fun h=>by rw [h,EF n hn]⟩
theorem fD (s:ByteArray) (h:bV s=13) (n:Nat) (hn:n < 13):s≠h_ n:=fun e=>by
 rw [e,EF n hn] at h;omega
end Go.Proofs.YtfkblpjfknfgbaaGreatDoor
