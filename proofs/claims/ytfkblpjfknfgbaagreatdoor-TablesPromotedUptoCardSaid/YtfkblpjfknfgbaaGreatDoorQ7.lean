import Derived.Test.YtfkblpjfknfgbaaGreatDoorRows
import Derived.Test.YtfkblpjfknfgbaaGreatDoorQ6
import Derived.Test.YtfkblpjfknfgbaaGreatDoorQ4
import Derived.Test.YtfkblpjfknfgbaaGreatDoorQ1
import Derived.ArgAppend
import Derived.Lib.SliceRun
import Derived.Deep.RegionLaw
set_option linter.unusedVariables false
set_option linter.unusedSimpArgs false
set_option maxHeartbeats 8000000
set_option maxRecDepth 100000
open Go.Maps Go.RowKit
open Go.Lib (hid cell_of_heap frozen_of_heap byteCells)
open Go.World (block_lt_of_cell?)
namespace Go.Proofs.YtfkblpjfknfgbaaGreatDoor
theorem nQ:∀(n:Nat) (l:List UInt8),l.length≤n→dV n l=dV l.length l
 | 0,l,h=>by rw [List.eq_nil_of_length_eq_zero (Nat.le_zero.1 h)];rfl
 | n+1,[],_=>by simp [dV]
 | n+1,b::l,h=>by
   have hl:l.length≤n:=by simpa using h
   rw [List.length_cons,dV,dV,nQ n l hl]
   by_cases hb:b.toNat=91
   ·rw [if_pos hb,if_pos hb]
    cases List.findIdx? (fun c=>c.toNat==93) l with
    | none=>rfl
    | some k =>
     dsimp only
     rw [nQ n (l.drop (k+1)) (by rw [List.length_drop];omega),nQ l.length (l.drop (k+1)) (by rw [List.length_drop];omega)]
   ·rw [if_neg hb,if_neg hb]
def dR (l:List UInt8):Except Int (List (List UInt8)):=dV l.length l
def iJ (ts:List (List UInt8)):Except Int (List (List UInt8))→Except Int (List (List UInt8))
 | .error c=>.error c
 | .ok us=>.ok (ts++us)
theorem xD:dR []=.ok []:=rfl
theorem uX (b:UInt8) (l:List UInt8) (hb:b.toNat=91) (hc:eZ l=none):dR (b::l)=.error 41:=by
 unfold eZ at hc
 rw [dR,List.length_cons,dV,if_pos hb,hc]
theorem xB (b:UInt8) (l:List UInt8) (n:Nat) (hb:b.toNat=91) (hc:eZ l=some n) (h:fI l n):dR (b::l)=.error 41:=by
 unfold eZ at hc
 unfold fI at h;rw [dR,List.length_cons,dV,if_pos hb,hc];dsimp only;rw [if_pos h]
theorem uY (b:UInt8) (l:List UInt8) (n:Nat) (hb:b.toNat=91) (hc:eZ l=some n) (h:¬fI l n):dR (b::l)=iJ [b::l.take (n+1)] (dR (l.drop (n+1))):=by
 unfold eZ at hc
 unfold fI at h;rw [dR,List.length_cons,dV,if_pos hb,hc];dsimp only
 rw [if_neg h,nQ l.length (l.drop (n+1)) (by rw [List.length_drop];omega)]
 unfold dR iJ
 cases dV (l.drop (n+1)).length (l.drop (n+1))<;>rfl
theorem xC (b:UInt8) (l:List UInt8) (hb:b.toNat≠91):dR (b::l)=iJ [[b]] (dR l):=by
 rw [dR,List.length_cons,dV,if_neg hb]
 unfold dR iJ
 cases dV l.length l<;>rfl
theorem nG (ts:List (List UInt8)) (t:List UInt8) (r:Except Int (List (List UInt8))):iJ ts (iJ [t] r)=iJ (ts++[t]) r:=by
 cases r<;>simp [iJ]
def Ue (l:List UInt8) (k:Nat) (ts:List (List UInt8)):Prop:=iJ ts (dR (l.drop k))=dR l∧ts.length≤k
def KS (Xs:List Ws) (ts:List (List UInt8)):Prop:=Xs.length=ts.length∧∀(j:Nat) X t,Xs[j]?=some X→ts[j]?=some t→dO X (cO t)
theorem KS.snoc {Xs:List Ws} {ts:List (List UInt8)} {X:Ws} {t:List UInt8} (h:KS Xs ts) (hx:dO X (cO t)):KS (Xs++[X]) (ts++[t]):=by
 refine⟨by simp [h.1],fun j Y u hY hu=>?_⟩
 by_cases hj:j < Xs.length
 ·rw [List.getElem?_append_left hj] at hY
  rw [List.getElem?_append_left (by rw [←h.1];exact hj)] at hu
  exact h.2 j Y u hY hu
 rw [List.getElem?_append_right (by omega)] at hY
 rw [List.getElem?_append_right (by rw [←h.1];omega)] at hu
 rw [←h.1] at hu
 rcases hd:j - Xs.length with _ | d
 ·rw [hd] at hY hu;simp at hY hu;subst hY hu;exact hx
 rw [hd] at hY;simp at hY
def gF (Xs:List Ws):List Value:=Xs.flatMap fun X=>[.int .u64 (X 0:Nat),.int .u64 (X 1:Nat),.int .u64 (X 2:Nat),.int .u64 (X 3:Nat)]
theorem Cz (Xs:List Ws) (X:Ws):gF Xs++[Value.int .u64 (X 0:Nat),.int .u64 (X 1:Nat),.int .u64 (X 2:Nat),.int .u64 (X 3:Nat)]=gF (Xs++[X]):=by simp [gF]
theorem QE (c:UInt8) (hc:c.toNat≠46) (b:UInt8):(false||c==b)=cO [c] b:=by
 have:(c.toNat==46)=false:=by rw [beq_eq_false_iff_ne];exact hc
 simp [cO,this]
theorem QF (c:UInt8) (hc:c.toNat=46) (b:UInt8):(!false)=cO [c] b:=by simp [cO,hc]
def yS (l:List UInt8) (w:World) (e:Ending) (w':World):Prop :=
 Below w.heap.size w w'∧match gT l with
  | .error c=>e=.returned (.tuple #[.agg #[.slice none 0 0],.int .i64 c])
  | .ok ts=>∃v n Xs,e=.returned (.tuple #[.agg #[v],.int .i64 0])∧n=ts.length∧KS Xs ts∧w'.ownsRow w.heap.size 273 4 v n (gF Xs)
theorem Hg:(Tryz.prog.info? 273).map (fun i=>(i.zero,i.size,i.bytes))=some (some (.agg #[.int .u64 0,.int .u64 0,.int .u64 0,.int .u64 0]),4,32):=by kernel_rfl
structure oD (w wr:World) (v:Value) (Xs:List Ws):Prop where
 below:Below w.heap.size w wr
 ans:wr.heap[w.heap.size]?=some (.cells #[.slice none 0 0] 246 (0,0))
 pat:wr.heap[w.heap.size+1]?=some (.cells #[v] 246 (0,0))
 row:wr.ownsRow w.heap.size 273 4 v Xs.length (gF Xs)
theorem oD.later {w wr w':World} {v:Value} {Xs:List Ws} (h:oD w wr v Xs) (hb:Below wr.heap.size wr w'):oD w w' v Xs :=
 ⟨h.below.trans (hb.mono h.below.size),(hb.block _ (block_lt h.ans)).trans h.ans,(hb.block _ (block_lt h.pat)).trans h.pat,own_below h.row hb⟩
theorem oD.push {w wr w1:World} {v v':Value} {Xs:List Ws} {X:Ws} (h:oD w wr v Xs) (hown:w1.ownsRow w.heap.size 273 4 v' (Xs.length+1) (gF Xs++[.int .u64 (X 0:Nat),.int .u64 (X 1:Nat),.int .u64 (X 2:Nat),.int .u64 (X 3:Nat)])) (hg:wr.grownBy w1 v.ownBlock) :
  oD w (w1.setCell ⟨w.heap.size+1,0,none⟩ v') v' (Xs++[X]):=by
 have hne:∀b cur fr,wr.heap[b]?=some (.cells cur 246 fr)→some b≠v.ownBlock:=by
  intro b cur fr hb e
  rcases h.row.2 with ⟨rfl,_⟩ | ⟨g,cap,c2,rfl,_,hgb,_⟩
  ·simp [Value.ownBlock] at e
  have:b=g:=by simpa [Value.ownBlock] using e
  subst this
  rw [hb] at hgb;cases hgb
 have h1:=(hg.block _ (block_lt h.ans) (hne _ _ _ h.ans)).trans h.ans;have h2:=(hg.block _ (block_lt h.pat) (hne _ _ _ h.pat)).trans h.pat
 have hv:∀g,v'.ownBlock=some g→g≠w.heap.size+1:=by
  intro g hgv e
  subst e
  rcases hown.2 with ⟨rfl,_⟩ | ⟨g',cap,c2,rfl,_,hgb,_⟩
  ·simp [Value.ownBlock] at hgv
  have:g'=w.heap.size+1:=by simpa [Value.ownBlock] using hgv
  subst this
  rw [h2] at hgb;cases hgb
 refine⟨(h.below.grown hg h.below.size (fun k hk=>(h.row.lt k hk).1)).setCell (by simp) _,?_,?_,?_⟩
 ·rw [Go.heap_setCell_other _ ⟨w.heap.size+1,0,none⟩ w.heap.size _ (by simp)];exact h1
 ·exact heap_setCell_same w1 _ 0 #[v] _ v' h2
 have:=((Kept.refl [w.heap.size+1] w1).set (w.heap.size+1) 0 v' (.inl (by simp))).own hown (fun g hgv=>by simpa using hv g hgv)
 rw [Cz] at this
 simpa using this
theorem lI {P:Program} {ops:Array Oper} {rest:List Oper} {o:Oper} {a:Act} {Q:Exit→Act→World→Prop} {w:World} (hgd:o.guard=none) (s x:Operand) (t:TypeId)
  (ho:o.op=.call { callee:=.builtin .append,args:=#[s,x],argTypes:=#[t,t] })
  (base:Nat) (e:TypeId) (i:TypeInfo) (z:Value) (size bytes:Nat) (ht:P.underlying t=some (.slice e)) (hi:P.info? e=some i) (hz:i.zero=some z)
  (hsize:i.size=size) (hby:i.bytes=bytes) (hzs:z.cells.size=size) (hsz:0 < size)
  (v:Value) (n:Nat) (xs:List Value) (hs:a.eval s=v) (hown:w.ownsRow base e size v n xs)
  (us:Array Value) (zL:us.size=size) (h1:∀u∈us.toList,u.oneCell'=true) (b:Nat) (hx:a.eval x=.slice (some ⟨b,0,none⟩) 1 1) (hb:b=w.heap.size)
  (h63:n+1≤maxLen) (hbytes:(n+1)*bytes≤140737488355328) (hbase:base≤w.heap.size)
  (h:∀g cap w',w'.ownsRow base e size (.slice (some ⟨g,0,none⟩) (n+1) cap) (n+1) (xs++us.toList)→w.grownBy w' v.ownBlock →
   wpList P ops Q rest (a.put o.dst (.slice (some ⟨g,0,none⟩) (n+1) cap)) w'):wpList P ops Q (o::rest) a (w.alloc (.cells us e)):=by
 subst hb
 exact oI hgd s x t ho base e i z size bytes ht hi hz hsize hby hzs hsz v n xs hs hown us zL h1 hx h63 hbytes hbase h
theorem TR {w:World} {B e size n:Nat} {v:Value} {xs:List Value} (h:w.ownsRow B e size v n xs):∃A cap,v=.slice A n cap:=by
 rcases h.2 with ⟨rfl,rfl⟩ | ⟨g,cap,cur,rfl,_⟩
 ·exact⟨_,_,rfl⟩
 exact⟨_,_,rfl⟩
theorem oD.jo {w wr w2:World} {v:Value} {Xs:List Ws} {o:Obj} (h:oD w wr v Xs) (hk:Kept [wr.heap.size] (wr.alloc o) w2):oD w w2 v Xs:=by
 have ha:=h.later ((Below.refl _ wr).alloc (Nat.le_refl _) o)
 have hw:w.heap.size≤wr.heap.size:=h.below.size
 refine⟨ha.below.trans (hk.below (by simp;omega) (fun x hx=>by simp at hx;omega)),hk.at ha.ans (by simp;exact Nat.ne_of_lt (block_lt h.ans)),hk.at ha.pat (by simp;exact Nat.ne_of_lt (block_lt h.pat)),hk.own ha.row (fun g hg hm=>?_)⟩
 simp at hm
 subst hm
 have:=(h.row.lt _ hg).2
 omega
theorem oD.qb {w wr:World} {v:Value} {Xs:List Ws} (h:oD w wr v Xs):wr.cell? ⟨w.heap.size,0,none⟩=some (.slice none 0 0)∧wr.frozen? ⟨w.heap.size,0,none⟩=false:=⟨by rw [cell_of_heap h.ans];rfl,frozen_of_heap h.ans 0⟩
theorem oD.QG {w wr:World} {v:Value} {Xs:List Ws} (h:oD w wr v Xs) (u:Value):(wr.setCell ⟨w.heap.size,0,none⟩ u).ownsRow w.heap.size 273 4 v Xs.length (gF Xs):=by
 refine ((Kept.refl [w.heap.size] wr).set w.heap.size 0 u (.inl (by simp))).own h.row (fun g hg hm=>?_)
 simp at hm
 subst hm
 rcases h.row.2 with ⟨rfl,_⟩ | ⟨g',cap,c2,rfl,_,hgb,_⟩
 ·simp [Value.ownBlock] at hg
 have:g'=w.heap.size:=by simpa [Value.ownBlock] using hg
 subst this
 have:=h.ans;rw [hgb] at this;cases this
theorem oD.tX {w wr:World} {v:Value} {Xs:List Ws} (h:oD w wr v Xs):wr.cell? ⟨w.heap.size+1,0,none⟩=some v:=by rw [cell_of_heap h.pat];rfl
theorem oD.uT {w wr w1:World} {v:Value} {Xs:List Ws} (h:oD w wr v Xs) (hg:wr.grownBy w1 v.ownBlock):w1.cell? ⟨w.heap.size+1,0,none⟩=some v∧w1.frozen? ⟨w.heap.size+1,0,none⟩=false:=by
 have h2:w1.heap[w.heap.size+1]?=some (.cells #[v] 246 (0,0)):=(hg.block _ (block_lt h.pat) (fun e=>by
  rcases h.row.2 with ⟨rfl,_⟩ | ⟨g,cap,c2,rfl,_,hgb,_⟩
  ·simp [Value.ownBlock] at e
  have:w.heap.size+1=g:=by simpa [Value.ownBlock] using e
  subst this
  have:=h.pat;rw [hgb] at this;cases this)).trans h.pat
 exact⟨by rw [cell_of_heap h2];rfl,frozen_of_heap h2 0⟩
theorem Dq (s:ByteArray) (h0:s.size≠0) (h1:s.size≤512) (h2:s.data.toList≠[46]):gT s.data.toList=match dR s.data.toList with | .error c=>.error c | .ok ts=>if 16 < ts.length then .error 42 else .ok ts:=by
 have hl:=ak s
 unfold gT
 rw [if_neg (by omega),if_neg h2]
 rfl
theorem EO (s:ByteArray) (w:World) :
  Calls Tryz.prog 152 #[.string s] w (yS s.data.toList w):=by
 obtain⟨i0,hi,hz0,hz1,hz2⟩:=info_parts Hg
 by_cases h0:s.size=0
 ·have hse:s=⟨#[]⟩:=by apply ByteArray.ext;exact Array.eq_empty_of_size_eq_zero h0
  subst hse
  go_enter Tryz.func152,Tryz.ntmps152
  go_wp2_with fail
  refine bodyPost_ret (v:=.tuple #[.agg #[.slice none 0 0],.int .i64 40]) (by simp [results,Tryz.results152,go_sem];try rfl) rfl ?_
  exact⟨((Below.refl _ _).alloc (Nat.le_refl _) _),rfl⟩
 have hne:=iY s (by omega)
 by_cases h1:s.size≤512
 ·have hgt:decide ((512:Int) < (s.size:Int))=false:=by rw [decide_eq_false_iff_not];omega
  by_cases h2:s.data.toList=[46]
  ·have hse:s=⟨#[46]⟩:=by
    obtain⟨⟨l⟩⟩:=s
    have:l=[46]:=h2
    rw [this]
   subst hse
   go_enter Tryz.func152,Tryz.ntmps152
   go_wp2_with fail
   refine bodyPost_ret (v:=.tuple #[.agg #[.slice none 0 0],.int .i64 0]) (by simp [results,Tryz.results152,go_sem];try rfl) rfl ?_
   exact⟨((Below.refl _ _).alloc (Nat.le_refl _) _),_,0,[],rfl,rfl,⟨rfl,fun j X t hX=>by simp at hX⟩,World.ownsRow_nil _ _ _ _⟩
  have hnd:(s.toList==[46])=false:=by rw [beq_eq_false_iff_ne,Lib.toList_data];exact h2
  have R3:=hid (Dq s h0 h1 h2);clear h2
  go_enter Tryz.func152,Tryz.ntmps152
  go_wp2_with fail
  go_loopw [5] (fun x wr=>∃(k:Nat) (ts:List (List UInt8)) (Xs:List Ws) (v:Value),k≤s.size∧x=.int .i64 k∧Hid (Ue s.data.toList k ts)∧Hid (KS Xs ts)∧Hid (oD w wr v Xs)) (fun x _=>s.size - (intOf x).toNat)
  case atStart =>
   refine⟨0,[],[],.slice none 0 0,Nat.zero_le _,rfl,⟨by simp [iJ];cases dR s.data.toList<;>rfl,Nat.le_refl _⟩,⟨rfl,fun j X t hX=>by simp at hX⟩,⟨((Below.refl _ _).alloc (Nat.le_refl _) _).alloc (by simp) _,?_,?_,World.ownsRow_nil _ _ _ _⟩⟩
   ·exact (Below.heap_alloc _ _ w.heap.size (by simp)).trans (heap_alloc_new w _)
   have:=heap_alloc_new (w.alloc (.cells #[.slice none 0 0] 246)) (.cells #[.slice none 0 0] 246)
   rw [World.size_alloc] at this
   exact this
  case round =>
  obtain⟨k,ts,Xs,v,hk,rfl,HS,HP,HC⟩:=hrel
  obtain⟨VA,vc,rfl⟩:=TR HC.o.row
  by_cases hlt:k < s.size
  ·have hdr:=drop_cons s k hlt
   by_cases hb:s[k].toNat=91
   ·have e1:((s[k].toNat:Int)==91)=true:=by rw [hb];rfl
    have Dr:s[k]=91:=by rw [←UInt8.toNat_inj];exact hb
    have Ak:Hid (∀W,Calls Tryz.prog 185 #[.string s,.int .i64 ((k:Int)+1)] W (XY (s.data.toList.drop (k+1)) (k+1) W)):=hid (fun W=>Hf s (k+1) W (by omega) (by omega))
    have Rw:Hid (Xs.length≤k):=hid (by have h3:=HS.o.2;have h4:=HP.o.1;omega)
    have Q6:=hid (show iJ ts (dR (s[k]::s.data.toList.drop (k+1)))=dR s.data.toList by rw [←hdr];exact HS.o.1)
    clear hdr;unfold XY at Ak;have hpn:w.heap.size+1 < wr.heap.size:=block_lt HC.o.pat
    have ne1:¬wr.heap.size=w.heap.size+1:=by omega
    have TQ:¬w.heap.size+1=wr.heap.size:=by omega
    have ne3:¬wr.heap.size=w.heap.size:=by omega
    have ne4:¬w.heap.size=wr.heap.size:=by omega
    cases hc:eZ (s.data.toList.drop (k+1)) with
    | none =>
     have bF:Hid (gT s.data.toList=.error 41):=hid (by rw [R3.o,←Q6.o,uX _ _ hb hc];rfl)
     simp only [hc] at Ak;clear hc hb Dr
     go_wp2_with (first
      | (go_at_call 185;refine (Ak.o _).mono ?_;rintro e w2 ⟨hb2,Y,i',rfl⟩;have CB:=hid (HC.o.jo (((((Kept.of_below hb2).set wr.heap.size 0 (.int .u64 (Y 0:Nat)) (.inl (by simp))).set wr.heap.size 1 (.int .u64 (Y 1:Nat)) (.inl (by simp))).set wr.heap.size 2 (.int .u64 (Y 2:Nat)) (.inl (by simp))).set wr.heap.size 3 (.int .u64 (Y 3:Nat)) (.inl (by simp))));obtain⟨hz2,-⟩:=fq (X:=fun _=>0) hb2;obtain⟨a0,a1,a2,a3⟩:=aU hz2;have TL:=frozen_of_heap hz2 0;have TM:=frozen_of_heap hz2 1;have TN:=frozen_of_heap hz2 2;have TP:=frozen_of_heap hz2 3;have q0:=(HC.o.jo (Kept.of_below hb2)).qb.1;have qz:=(HC.o.jo (Kept.of_below hb2)).qb.2;clear hb2 hz2))
     refine bodyPost_ret (v:=.tuple #[.agg #[.slice none 0 0],.int .i64 41]) (by simp [results,Tryz.results152,go_sem,q0,ne1,TQ,ne3,ne4]) rfl ?_
     rw [yS,bF.o]
     exact⟨CB.o.below.setCell (Nat.le_refl _) _,rfl⟩
    | some n =>
     simp only [hc] at Ak
     by_cases hbi:fI (s.data.toList.drop (k+1)) n
     ·have bF:Hid (gT s.data.toList=.error 41):=hid (by rw [R3.o,←Q6.o,xB _ _ n hb hc hbi];rfl)
      simp only [if_pos hbi] at Ak;clear hc hb Dr hbi
      go_wp2_with (first
       | (go_at_call 185;refine (Ak.o _).mono ?_;rintro e w2 ⟨hb2,Y,i',rfl⟩;have CB:=hid (HC.o.jo (((((Kept.of_below hb2).set wr.heap.size 0 (.int .u64 (Y 0:Nat)) (.inl (by simp))).set wr.heap.size 1 (.int .u64 (Y 1:Nat)) (.inl (by simp))).set wr.heap.size 2 (.int .u64 (Y 2:Nat)) (.inl (by simp))).set wr.heap.size 3 (.int .u64 (Y 3:Nat)) (.inl (by simp))));obtain⟨hz2,-⟩:=fq (X:=fun _=>0) hb2;obtain⟨a0,a1,a2,a3⟩:=aU hz2;have TL:=frozen_of_heap hz2 0;have TM:=frozen_of_heap hz2 1;have TN:=frozen_of_heap hz2 2;have TP:=frozen_of_heap hz2 3;have q0:=(HC.o.jo (Kept.of_below hb2)).qb.1;have qz:=(HC.o.jo (Kept.of_below hb2)).qb.2;clear hb2 hz2))
      refine bodyPost_ret (v:=.tuple #[.agg #[.slice none 0 0],.int .i64 41]) (by simp [results,Tryz.results152,go_sem,q0,ne1,TQ,ne3,ne4]) rfl ?_
      rw [yS,bF.o]
      exact⟨CB.o.below.setCell (Nat.le_refl _) _,rfl⟩
     have hlt2:=mP hc;rw [List.length_drop,ak] at hlt2
     have HS2:Hid (Ue s.data.toList (k+1+n+1) (ts++[s[k]::(s.data.toList.drop (k+1)).take (n+1)])):=hid ⟨by
      have h3:=Q6.o
      rw [uY _ _ n hb hc hbi,nG,List.drop_drop] at h3
      exact h3,by have:=HS.o.2;simp;omega⟩
     simp only [if_neg hbi] at Ak;rw [Dr] at HS2;clear hc hb Dr hbi
     go_wp2_with (first
      | (go_at_call 185;refine (Ak.o _).mono ?_;rintro e w2 ⟨hb2,Y,rfl,hY⟩;have HY:=hid hY;have CB:=hid (HC.o.jo (((((Kept.of_below hb2).set wr.heap.size 0 (.int .u64 (Y 0:Nat)) (.inl (by simp))).set wr.heap.size 1 (.int .u64 (Y 1:Nat)) (.inl (by simp))).set wr.heap.size 2 (.int .u64 (Y 2:Nat)) (.inl (by simp))).set wr.heap.size 3 (.int .u64 (Y 3:Nat)) (.inl (by simp))));obtain⟨hz2,-⟩:=fq (X:=fun _=>0) hb2;obtain⟨a0,a1,a2,a3⟩:=aU hz2;have TL:=frozen_of_heap hz2 0;have TM:=frozen_of_heap hz2 1;have TN:=frozen_of_heap hz2 2;have TP:=frozen_of_heap hz2 3;have p0:=(HC.o.jo (Kept.of_below hb2)).tX;clear hb2 hY hz2)
      | (at_builtin;refine lI rfl _ _ 244 rfl w.heap.size 273 i0 (.agg #[.int .u64 0,.int .u64 0,.int .u64 0,.int .u64 0]) 4 32 Tryz.underlying244 hi hz0 hz1 hz2 rfl (by decide) (.slice VA Xs.length vc) Xs.length (gF Xs) rfl CB.o.row #[.int .u64 (Y 0:Nat),.int .u64 (Y 1:Nat),.int .u64 (Y 2:Nat),.int .u64 (Y 3:Nat)] rfl (by intro x hx;simp at hx;rcases hx with rfl | rfl | rfl | rfl<;>rfl) _ rfl (by simp [World.setCell]) (by have:=Rw.o;unfold maxLen;omega) (by have:=Rw.o;omega) CB.o.below.size ?_;intro g' cap' w9 hown hg;have WK:=hid (CB.o.push hown hg);have qc:=CB.o.uT hg;have c9:=qc.1;have z9:=qc.2;clear hown hg qc))
     go_roundw
     case rel=>exact⟨k+1+n+1,_,_,_,by omega,by go_num,HS2,hid (HP.o.snoc HY.o),WK⟩
     case measure=>simp [intOf];omega
   have e1:((s[k].toNat:Int)==91)=false:=by rw [beq_eq_false_iff_ne];omega
   have HS2:Hid (Ue s.data.toList (k+1) (ts++[[s[k]]])):=hid ⟨by rw [←HS.o.1,hdr,xC _ _ hb,nG],by have:=HS.o.2;simp;omega⟩
   clear hdr hb
   by_cases hd:s[k].toNat=46
   ·have e2:((s[k].toNat:Int)==46)=true:=by rw [hd];rfl
    have HQ:=hid (QF s[k] hd);clear hd
    have Rw:Hid (Xs.length≤k):=hid (by have h3:=HS.o.2;have h4:=HP.o.1;omega)
    have hpn:w.heap.size+1 < wr.heap.size:=block_lt HC.o.pat
    have ne1:¬wr.heap.size=w.heap.size+1:=by omega
    have TQ:¬w.heap.size+1=wr.heap.size:=by omega
    have HOt:Hid (∀W,Calls Tryz.prog 186 #[.agg #[.int .u64 0,.int .u64 0,.int .u64 0,.int .u64 0]] W fun e w'=>∃Y:Ws,e=.returned (.agg #[.int .u64 (Y 0:Nat),.int .u64 (Y 1:Nat),.int .u64 (Y 2:Nat),.int .u64 (Y 3:Nat)])∧dO Y (fun b=>!false)∧Below W.heap.size W w'):=hid (fun W=>kT (fun _=>0) (fun _=>false) W dO.none)
    go_wp2_with (first
     | (go_at_call 186;refine (HOt.o _).mono ?_;rintro e w2 ⟨Y,rfl,hY,hb2⟩;have HY:=hid (hY.ext HQ.o);have CB:=hid (HC.o.jo (((((Kept.of_below hb2).set wr.heap.size 0 (.int .u64 (Y 0:Nat)) (.inl (by simp))).set wr.heap.size 1 (.int .u64 (Y 1:Nat)) (.inl (by simp))).set wr.heap.size 2 (.int .u64 (Y 2:Nat)) (.inl (by simp))).set wr.heap.size 3 (.int .u64 (Y 3:Nat)) (.inl (by simp))));obtain⟨hz2,-⟩:=fq (X:=fun _=>0) hb2;obtain⟨a0,a1,a2,a3⟩:=aU hz2;have TL:=frozen_of_heap hz2 0;have TM:=frozen_of_heap hz2 1;have TN:=frozen_of_heap hz2 2;have TP:=frozen_of_heap hz2 3;have p0:=(HC.o.jo (Kept.of_below hb2)).tX;clear hb2 hY hz2)
     | (at_builtin;refine lI rfl _ _ 244 rfl w.heap.size 273 i0 (.agg #[.int .u64 0,.int .u64 0,.int .u64 0,.int .u64 0]) 4 32 Tryz.underlying244 hi hz0 hz1 hz2 rfl (by decide) (.slice VA Xs.length vc) Xs.length (gF Xs) rfl CB.o.row #[.int .u64 (Y 0:Nat),.int .u64 (Y 1:Nat),.int .u64 (Y 2:Nat),.int .u64 (Y 3:Nat)] rfl (by intro x hx;simp at hx;rcases hx with rfl | rfl | rfl | rfl<;>rfl) _ rfl (by simp [World.setCell]) (by have:=Rw.o;unfold maxLen;omega) (by have:=Rw.o;omega) CB.o.below.size ?_;intro g' cap' w9 hown hg;have WK:=hid (CB.o.push hown hg);have qc:=CB.o.uT hg;have c9:=qc.1;have z9:=qc.2;clear hown hg qc))
    go_roundw
    case rel=>exact⟨k+1,_,_,_,by omega,by go_num,HS2,hid (HP.o.snoc HY.o),WK⟩
    case measure=>simp [intOf];omega
   have e2:((s[k].toNat:Int)==46)=false:=by rw [beq_eq_false_iff_ne];omega
   have HQ:=hid (QE s[k] hd);clear hd
   have Rw:Hid (Xs.length≤k):=hid (by have h3:=HS.o.2;have h4:=HP.o.1;omega)
   have ZT:=hid (NV (fun _=>0) wr.heap.size s[k] (wr.alloc (.cells (uh (fun _=>0)) 273)) (by decide) (heap_alloc_new wr _))
   go_wp2_with (first
    | (go_at_call 187;refine ZT.o.mono ?_;rintro e w2 ⟨rfl,h1,h2⟩;obtain⟨Y,hY⟩:∃Y,ED (fun _=>0) s[k].toNat=Y:=⟨_,rfl⟩;have HY:Hid (dO Y (cO [s[k]])):=hid (by rw [←hY];exact (dO.none.put s[k]).ext HQ.o);rw [hY] at h1;have CB:=hid (HC.o.jo h2);obtain⟨b0,b1,b2,b3⟩:=aU h1;have p0:=CB.o.tX;clear h1 h2 hY)
    | (at_builtin;refine lI rfl _ _ 244 rfl w.heap.size 273 i0 (.agg #[.int .u64 0,.int .u64 0,.int .u64 0,.int .u64 0]) 4 32 Tryz.underlying244 hi hz0 hz1 hz2 rfl (by decide) (.slice VA Xs.length vc) Xs.length (gF Xs) rfl CB.o.row #[.int .u64 (Y 0:Nat),.int .u64 (Y 1:Nat),.int .u64 (Y 2:Nat),.int .u64 (Y 3:Nat)] rfl (by intro x hx;simp at hx;rcases hx with rfl | rfl | rfl | rfl<;>rfl) _ rfl (by simp [World.setCell]) (by have:=Rw.o;unfold maxLen;omega) (by have:=Rw.o;omega) CB.o.below.size ?_;intro g' cap' w9 hown hg;have WK:=hid (CB.o.push hown hg);have qc:=CB.o.uT hg;have c9:=qc.1;have z9:=qc.2;clear hown hg qc))
   go_roundw
   case rel=>exact⟨k+1,_,_,_,by omega,by go_num,HS2,hid (HP.o.snoc HY.o),WK⟩
   case measure=>simp [intOf];omega
  obtain rfl:k=s.size:=by omega
  have hit:dR s.data.toList=.ok ts:=by rw [←HS.o.1,iC,xD];simp [iJ]
  have hcr:=R3.o;rw [hit] at hcr;dsimp only at hcr;have hxl:=HP.o.1;have p0:=HC.o.tX;obtain⟨q0,qz⟩:=HC.o.qb
  have ne1:¬w.heap.size=w.heap.size+1:=by omega
  by_cases h16:16 < ts.length
  ·rw [if_pos h16] at hcr
   have bF:=hid hcr
   have LQ:decide ((16:Int) < (Xs.length:Int))=true:=by rw [decide_eq_true_iff];omega
   clear hcr hit hxl h16
   go_wp2_with fail
   refine bodyPost_ret (v:=.tuple #[.agg #[.slice none 0 0],.int .i64 42]) (by simp [results,Tryz.results152,go_sem,q0]) rfl ?_
   rw [yS,bF.o]
   exact⟨HC.o.below.setCell (Nat.le_refl _) _,rfl⟩
  rw [if_neg h16] at hcr;have bF:=hid hcr;have HXl:=hid hxl
  have LQ:decide ((16:Int) < (Xs.length:Int))=false:=by rw [decide_eq_false_iff_not];omega
  clear hcr hit hxl h16
  go_wp2_with fail
  refine bodyPost_ret (v:=.tuple #[.agg #[.slice VA Xs.length vc],.int .i64 0]) (by simp [results,Tryz.results152,go_sem,q0]) rfl ?_
  rw [yS,bF.o]
  exact⟨HC.o.below.setCell (Nat.le_refl _) _,_,Xs.length,Xs,rfl,HXl.o,HP.o,HC.o.QG _⟩
 have hgt:decide ((512:Int) < (s.size:Int))=true:=by rw [decide_eq_true_iff];omega
 have HR:Hid (gT s.data.toList=.error 40):=hid (by unfold gT;rw [if_pos (.inr (by rw [ak];omega))])
 go_enter Tryz.func152,Tryz.ntmps152
 go_wp2_with fail
 refine bodyPost_ret (v:=.tuple #[.agg #[.slice none 0 0],.int .i64 40]) (by simp [results,Tryz.results152,go_sem];try rfl) rfl ?_
 unfold yS;rw [HR.o]
 exact⟨((Below.refl _ _).alloc (Nat.le_refl _) _),rfl⟩
theorem f_ (w:World) (b j:Nat) (x:Value):Kept [b] w (w.setCell ⟨b,j,none⟩ x):=(Kept.refl [b] w).set b j x (.inl (by simp))
theorem nY {P:Program} {w w':World} {ops:Array Oper} {o:Oper} {a:Act} {K:Act→World→Prop} {Q:Exit→Act→World→Prop} {E:Prop} (hgd:o.guard=none) (s x:Operand) (t:TypeId)
  (ho:o.op=.call { callee:=.builtin .append,args:=#[s,x],argTypes:=#[t,t] }) (v u r:Value) (hs:a.eval s=v) (hx:a.eval x=u)
  (hrun:(Builtin.append_ #[t,t] o.type #[v,u]).run P w=.ok r w') (h:K (a.put o.dst r) w') :
  if Region.wanted o (yielded ops a.tmps)=true then Oper.wp P o a w K Q else E:=by
 have hw:Region.wanted o (yielded ops a.tmps)=true:=by simp [Region.wanted,hgd]
 rw [if_pos hw];unfold Oper.wp execOp;simp only [ho,resolve,invoke,builtin,Sem.run_bind,Sem.run_pure,Result.andThen_ok,List.map_toArray,List.map_cons,List.map_nil,hs,hx,hrun]
 exact h
def Rx (l:List UInt8) (c:UInt8):Int:=match l.findIdx? (·==c) with | some k=>(k:Int) | none=>-1
theorem QH (l:List UInt8) (c:UInt8) (k:Nat) (hk:k < l.length) (h:l[k]=c) (hn:∀j (hj:j < k),l[j]'(Nat.lt_trans hj hk)≠c):Rx l c=k:=by
 have:l.findIdx? (·==c)=some k:=by
  rw [List.findIdx?_eq_some_iff_getElem]
  exact⟨hk,by simp [h],fun j hj=>by simpa using hn j hj⟩
 unfold Rx;rw [this]
theorem EP (l:List UInt8) (c:UInt8) (hn:∀j (hj:j < l.length),l[j]≠c):Rx l c = -1:=by
 have:l.findIdx? (·==c)=none:=by
  rw [List.findIdx?_eq_none_iff]
  intro x hx
  obtain⟨j,hj,rfl⟩:=List.getElem_of_mem hx
  simpa using hn j hj
 unfold Rx;rw [this]
theorem Bw (v:Value) (l:List UInt8) (c:UInt8) (w:World) (h:Rd w 1 v l.length (byteCells l)) (hl:l.length≤1048576) :
  Calls Tryz.prog 222 #[v,.int .u8 c.toNat] w fun e w'=>e=.returned (.int .i64 (Rx l c))∧w=w':=by
 obtain⟨-,A,cp,rfl,hcap,hs⟩:=h
 have hS:=hid hs;clear hs
 go_enter Tryz.func222,Tryz.ntmps222
 go_wp2_with fail
 go_loop [5,8] (fun _ i=>∃k:Nat,k≤l.length∧i=.int .i64 k∧Hid (∀j (hj:j < l.length),j < k→l[j]≠c)) (fun _ i=>l.length - (intOf i).toNat)
 case atStart=>exact⟨0,Nat.zero_le _,rfl,fun j _ hj=>absurd hj (Nat.not_lt_zero _)⟩
 case round =>
 obtain⟨k,hk,rfl,HN⟩:=hrel
 by_cases hlt:k < l.length
 ·obtain⟨b,off,rfl,hc⟩:=hS.out.resolve_left (by omega)
  have hcell:=hc k (.int .u8 (l[k].toNat:Int)) (by simp [byteCells,hlt])
  clear hc
  by_cases he:l[k]=c
  ·have e1:((c.toNat:Int)==(l[k].toNat:Int))=true:=by rw [he];simp
   have HR:=hid (QH l c k hlt he (fun j hj=>HN.o j _ hj))
   clear he
   go_wp2_with fail
   go_ret
   exact⟨jN HR.o.symm,rfl⟩
  have e1:((c.toNat:Int)==(l[k].toNat:Int))=false:=by
   rw [beq_eq_false_iff_ne];intro e;exact he (by rw [←UInt8.toNat_inj];omega)
  have Dl:Hid (∀j (hj:j < l.length),j < k+1→l[j]≠c):=hid (fun j hj hj2=>by
   by_cases e:j=k
   ·subst e;exact he
   exact HN.o j hj (by omega))
  clear he
  go_wp2_with fail
  go_round
  case rel=>exact⟨k+1,by omega,by go_num,Dl⟩
  case measure=>simp [intOf];omega
 have HR:=hid (EP l c (fun j hj=>HN.o j hj (by omega)))
 have hke:k=l.length:=by omega
 subst hke
 go_wp2_with fail
 go_ret
 exact⟨jN HR.o.symm,rfl⟩
def Hl (cur:Array Value) (o:Nat):List Value→Array Value
 | []=>cur
 | x::r=>Hl (cur.setIfInBounds o x) (o+1) r
theorem ni:∀(vs:List Value) (cur:Array Value) (o:Nat),(Hl cur o vs).size=cur.size
 | [],_,_=>rfl
 | x::r,cur,o=>by rw [Hl,ni r];simp
theorem jS {e:Nat} (g:Nat):∀(vs:List Value) (o:Nat) (w:World) (cur:Array Value),w.heap[g]?=some (.cells cur e (0,0))→(w.setCells g o vs).heap[g]?=some (.cells (Hl cur o vs) e (0,0))
 | [],_,_,_,h=>h
 | x::r,o,w,cur,h=>jS g r (o+1) (w.setCell ⟨g,o,none⟩ x) _ (heap_setCell_same w g o cur e x h)
theorem yT:∀(vs:List Value) (cur:Array Value) (o j:Nat),o+vs.length≤cur.size→(Hl cur o vs)[j]?=if o≤j∧j < o+vs.length then vs[j - o]? else cur[j]?
 | [],cur,o,j,_=>by rw [Hl,if_neg (by rintro⟨h1,h2⟩;simp at h2;omega)]
 | x::r,cur,o,j,h=>by
   have hl:(x::r).length=r.length+1:=rfl
   rw [Hl,yT r _ _ _ (by simp;simp at h;omega)]
   by_cases e:j=o
   ·subst e
    rw [if_neg (by omega),if_pos (by omega),Nat.sub_self]
    rw [Array.getElem?_setIfInBounds_self_of_lt (by omega)];rfl
   ·by_cases c:o+1≤j∧j < o+1+r.length
    ·rw [if_pos c,if_pos (by omega),show j - o=(j - (o+1))+1 by omega,List.getElem?_cons_succ]
    ·rw [if_neg c,if_neg (by omega),Array.getElem?_setIfInBounds_ne (by omega)]
theorem jT (g:Nat):∀(vs:List Value) (o:Nat) (w:World),Kept [g] w (w.setCells g o vs)
 | [],_,w=>Kept.refl _ w
 | x::r,o,w=>(f_ w g o x).trans (jT g r (o+1) _)
theorem ER {w0 w:World} {g cap:Nat} {l:List UInt8} {k:Nat} (h:Own w0 w 5 1 (.slice (some ⟨g,0,none⟩) l.length cap) l.length (byteCells l)) (hk:k < l.length) (z:Value) :
  Own w0 ((w.setCells g k (byteCells (l.drop (k+1)))).setCells g (l.length - 1) [z]) 5 1 (.slice (some ⟨g,0,none⟩) (l.length - 1) cap) (l.length - 1) (byteCells (l.take k++l.drop (k+1))):=by
 have hlen:(l.take k++l.drop (k+1)).length=l.length - 1:=by simp;omega
 have hbl:∀x:List UInt8,(byteCells x).length=x.length:=fun x=>by simp [byteCells]
 rcases h.own.2 with ⟨hv,_⟩ | ⟨g',cap',cur,hv,hg,hb,hn,hm,hs,ht⟩
 ·cases hv
 cases hv
 have hd:(byteCells (l.drop (k+1))).length=l.length - (k+1):=by rw [hbl];simp
 have h1:=jS g (byteCells (l.drop (k+1))) k w cur hb;have h2:=jS g [z] (l.length - 1) _ _ h1
 refine⟨h.below.trans (((jT g _ _ _).trans (jT g _ _ _)).below h.below.size (fun x hx=>by simp at hx;subst hx;exact hg)),?_⟩
 refine⟨by rw [hbl,hlen];omega,.inr ⟨g,cap,_,rfl,hg,h2,by omega,hm,by rw [ni,ni];exact hs,?_⟩⟩
 rw [Nat.mul_one] at ht hs ⊢
 apply List.ext_getElem?
 intro j
 by_cases hj:j < l.length - 1
 ·rw [List.getElem?_take_of_lt hj,Array.getElem?_toList,yT _ _ _ _ (by rw [ni];simp;omega),if_neg (by simp;omega),yT _ _ _ _ (by rw [hd];omega),hd]
  have hget:∀i,i < l.length→cur[i]?=(byteCells l)[i]?:=fun i hi=>by
   rw [←ht,List.getElem?_take_of_lt hi,Array.getElem?_toList]
  by_cases hjk:j < k
  ·rw [if_neg (by omega),hget j (by omega)]
   simp only [byteCells,List.map_append]
   rw [List.getElem?_append_left (by simp;omega)]
   simp [List.getElem?_take,hjk]
  rw [if_pos (by omega)]
  simp only [byteCells,List.map_append]
  rw [List.getElem?_append_right (by simp;omega)]
  simp only [List.length_map,List.length_take,Nat.min_eq_left (Nat.le_of_lt hk)]
 rw [List.getElem?_eq_none (by simp;omega),List.getElem?_eq_none (by rw [hbl,hlen];omega)]
theorem QI (w:World):(zeroValue 5).run Tryz.prog w=.ok (.int .u8 0) w:=by kernel_rfl
def N8 (w0:World) (g cap:Nat) (r:List UInt8) (e:Ending) (w':World):Prop:=∃n,n=r.length∧e=.returned (.slice (some ⟨g,0,none⟩) n cap)∧Own w0 w' 5 1 (.slice (some ⟨g,0,none⟩) n cap) n (byteCells r)
theorem Ho (w0 w:World) (g cap:Nat) (l:List UInt8) (k:Nat) (ho:Own w0 w 5 1 (.slice (some ⟨g,0,none⟩) l.length cap) l.length (byteCells l)) (hk:k < l.length) (hl:l.length≤1048576) :
  Calls Tryz.prog 223 #[.slice (some ⟨g,0,none⟩) l.length cap,.int .i64 (k:Int),.int .i64 ((k:Int)+1)] w (N8 w0 g cap (l.take k++l.drop (k+1))):=by
 have hnl:l.length - 1=(l.take k++l.drop (k+1)).length:=by simp;omega
 have ZC:=hid hnl;clear hnl;have HOD:=hid (ER ho.drew hk (.int .u8 0));obtain⟨i0,hi,hz0,hz1,hz2⟩:=info_parts fE
 have hcells:∀j,j < l.length→w.cell? ⟨g,j,none⟩=(byteCells l)[j]?∧w.frozen? ⟨g,j,none⟩=false:=fun j hj=>by
  rcases ho.own.2 with ⟨hv,_⟩ | ⟨g',cap',cur,hv,hg,hb,hn,hm,hs,ht⟩
  ·cases hv
  cases hv
  refine⟨?_,frozen_of_heap hb j⟩
  rw [cell_of_row _ g j cur _ (0,0) hb,←ht,List.getElem?_take_of_lt (by omega),Array.getElem?_toList]
 have hcap:l.length≤cap∧cap≤maxLen:=by
  rcases ho.own.2 with ⟨hv,_⟩ | ⟨g',cap',cur,hv,hg,hb,hn,hm,hs,ht⟩
  ·cases hv
  cases hv;exact⟨hn,hm⟩
 have hcap2:=hcap.1;have WL:=hcap.2;unfold maxLen at WL
 have hne:((k:Int)==(k:Int)+1)=false:=by rw [beq_eq_false_iff_ne];omega
 have sw:Hid (∀W:World,Kept [g] w.drew W→(∃o vs,W=w.drew.setCells g o vs)→∀ty,(Builtin.clear_ #[213] ty #[.slice (some ⟨g,l.length - 1,none⟩) (l.length - (l.length - 1)) (cap - (l.length - 1))]).run Tryz.prog W=.ok (.tuple #[]) (W.setCells g (l.length - 1) [.int .u8 0])):=hid (by
  rintro W - ⟨o,vs,rfl⟩ ty
  rcases ho.own.2 with ⟨hv,_⟩ | ⟨g',cap',cur,hv,hg,hb,hn,hm,hs,ht⟩
  ·cases hv
  cases hv
  have h1:=jS g vs o w.drew cur hb
  have h2:=Lib.run_clear_slice (P:=Tryz.prog) (w.drew.setCells g o vs) 213 5 ty (.int .u8 0) Tryz.underlying213 QI rfl rfl g (l.length - 1) (l.length - (l.length - 1)) (cap - (l.length - 1)) (by omega)
   (fun j hj=>by
    rw [cell_of_row _ g _ _ _ (0,0) h1]
    rw [Array.getElem?_eq_getElem (by rw [ni];omega)];rfl)
   (fun j hj=>frozen_of_heap h1 _)
  rw [show List.replicate (l.length - (l.length - 1)) (Value.int .u8 0)=[.int .u8 0] by rw [show l.length - (l.length - 1)=1 by omega];rfl] at h2
  exact h2)
 have HC:=hid hcells;clear hcells hcap ho
 have hbl:∀x:List UInt8,(byteCells x).length=x.length:=fun x=>by simp [byteCells]
 by_cases hlast:k+1 < l.length
 ·have HR:Hid (∀ty,(Builtin.append_ #[213,213] ty #[.slice (some ⟨g,0,none⟩) k cap,.slice (some ⟨g,k+1,none⟩) (l.length - (k+1)) (cap - (k+1))]).run Tryz.prog w.drew=.ok (.slice (some ⟨g,0,none⟩) (l.length - 1) cap) (w.drew.setCells g k (byteCells (l.drop (k+1))))):=hid (fun ty=>by
   have h1:=run_append_room_cells (P:=Tryz.prog) w.drew 213 ty 5 i0 Tryz.underlying213 hi g 0 k cap ⟨g,k+1,none⟩ (l.length - (k+1)) (cap - (k+1)) (byteCells (l.drop (k+1))) (by rw [hz1,hbl];simp) (by
     intro j u hj
     have hjl:j < l.length - (k+1):=by
      rcases Nat.lt_or_ge j (l.length - (k+1)) with h | h
      ·exact h
      ·rw [List.getElem?_eq_none (by rw [hbl];simp;omega)] at hj;cases hj
     rw [Addr.add_lit]
     have h3:=(HC.o (k+1+j) (by omega)).1
     have h4:(byteCells l)[k+1+j]?=some u:=by
      rw [←hj];simp [byteCells,List.getElem?_drop]
     rw [h4] at h3
     exact h3) (by intro u hu;unfold byteCells at hu;obtain⟨x,_,rfl⟩:=List.mem_map.1 hu;rfl) (by omega)
    (fun j hj=>by
     rw [hz1,hbl,List.length_drop] at *
     have h3:=(HC.o (k+j) (by omega)).1
     show (w.cell? _).isSome=true
     rw [Nat.zero_add,Nat.mul_one,h3]
     simp [byteCells];omega)
    (fun j hj=>by
     rw [hbl,List.length_drop] at hj
     show w.frozen? _=false
     rw [hz1,Nat.zero_add,Nat.mul_one];exact (HC.o (k+j) (by omega)).2)
   rw [hz1,Nat.zero_add,Nat.mul_one,show k+(l.length - (k+1))=l.length - 1 by omega] at h1
   exact h1)
  have hcc:¬cap=k+1:=by omega
  have hkc:k≤cap:=by omega
  have hki:(0:Int)≤(k:Int)+1:=by omega
  have hkl:(k:Int)+1≤(l.length:Int):=by omega
  go_enter Tryz.func223,Tryz.ntmps223
  go_wp2_with fail
  have hcl:=sw.o (w.drew.setCells g k (byteCells (l.drop (k+1)))) (jT g _ _ _) ⟨_,_,rfl⟩
  go_region_law (refine nY (by rfl) _ _ 213 (by rfl) _ _ _ rfl rfl (HR.o _) ?_)
  go_wp2_with fail
  go_ret
  exact⟨_,ZC.o,rfl,HOD.o⟩
 have hk1:k+1=l.length:=by omega
 have hd:l.drop (k+1)=[]:=List.drop_of_length_le (by omega)
 have HR:Hid (∀A c ty,(Builtin.append_ #[213,213] ty #[.slice (some ⟨g,0,none⟩) k cap,.slice A 0 c]).run Tryz.prog w.drew=.ok (.slice (some ⟨g,0,none⟩) (l.length - 1) cap) w.drew):=hid (fun A c ty=>by
  rw [show l.length - 1=k by omega]
  have hkc:k≤cap:=by omega
  cases A<;>simp [Builtin.append_,run_underlying Tryz.underlying213,sizeOf,typeInfo,hi,Builtin.lenOf,Builtin.firstCells,hkc,storeCells,loadCells,loadCellsFrom])
 have hcl:=sw.o w.drew (Kept.refl _ _) ⟨0,[],rfl⟩
 have hod:Own w0 (w.drew.setCells g (l.length - 1) [.int .u8 0]) 5 1 (.slice (some ⟨g,0,none⟩) (l.length - 1) cap) (l.length - 1) (byteCells (l.take k++l.drop (k+1))):=by
  have h:=HOD.o
  rw [show w.drew.setCells g k (byteCells (l.drop (k+1)))=w.drew by rw [hd];rfl] at h
  exact h
 have fG:=hid hod;clear hod
 have hkc:k≤cap:=by omega
 have hki:(0:Int)≤(k:Int)+1:=by omega
 have hkl:(k:Int)+1≤(l.length:Int):=by omega
 have hz:l.length - (k+1)=0:=by omega
 clear hd hlast;clear hk1
 go_enter Tryz.func223,Tryz.ntmps223
 go_wp2_with fail
 go_region_law (refine nY (by rfl) _ _ 213 (by rfl) _ _ _ rfl rfl (HR.o _ _ _) ?_)
 go_wp2_with fail
 all_goals go_ret
 all_goals refine⟨_,ZC.o,rfl,?_⟩
 all_goals first
  | exact fG.o
  | (have e:cap=k+1:=by assumption
     have h2:=fG.o;rw [e] at h2
     exact h2)
def nH (p:UInt8→Bool):List UInt8 :=
 let yes:=aS.filter p
 let no:=aS.filter (fun b=>!p b)
 if no=[] then [46] else if yes.length=1∧yes≠[46]∧yes≠[91] then yes
 else if p 93=true then [91,94]++no++[93] else [91]++yes.filter (fun b=>b.toNat != 94)++(if yes.contains 94=true then [94] else [])++[93]
theorem dD (a b:List UInt8):mkS a++mkS b=mkS (a++b):=by simp [mkS,ByteArray.ext_iff]
theorem zZ (t:List UInt8):fJ t=nH (cO t):=rfl
theorem vO {α:Type} (p:α→Bool):∀l:List α,(l.filter p).length=l.length↔l.filter (fun b=>!p b)=[]
 | []=>by simp
 | x::r=>by
   have ih:=vO p r
   have hle:=List.length_filter_le p r
   cases hx:p x
   ·simp only [hx,List.length_cons,List.filter_cons,Bool.not_false,if_true]
    simp
    omega
   ·simp [hx]
theorem KT:aS.Nodup:=by decide +kernel
theorem N9 {l:List UInt8} {k:Nat} (hd:l.Nodup) (hk:k < l.length) (c:UInt8) (h:l[k]=c):l.take k++l.drop (k+1)=l.filter (fun b=>b.toNat != c.toNat):=by
 have e:l=l.take k++c::l.drop (k+1):=by
  conv=>lhs;rw [←List.take_append_drop k l]
  rw [List.drop_eq_getElem_cons hk,h]
 have hd2:=hd;rw [e,List.nodup_append] at hd2;obtain⟨_,h2,h3⟩:=hd2;rw [List.nodup_cons] at h2
 conv=>rhs;rw [e]
 rw [List.filter_append,List.filter_cons_of_neg (by simp)]
 rw [List.filter_eq_self.2,List.filter_eq_self.2]
 ·intro b hb
  simp only [bne_iff_ne,ne_eq,UInt8.toNat_inj]
  rintro rfl
  exact h2.1 hb
 intro b hb
 simp only [bne_iff_ne,ne_eq,UInt8.toNat_inj]
 exact h3 b hb c (List.mem_cons_self)
theorem N_ {l:List UInt8} {c:UInt8} (h:l.contains c=true):∃k,∃hk:k < l.length,l[k]=c∧Rx l c=(k:Int):=by
 unfold Rx
 rcases hx:l.findIdx? (·==c) with _ | k
 ·rw [List.findIdx?_eq_none_iff] at hx
  have:=hx c (by simpa using h)
  simp at this
 rw [List.findIdx?_eq_some_iff_getElem] at hx
 obtain⟨hk,he,_⟩:=hx
 exact⟨k,hk,by simpa using he,rfl⟩
theorem Oa {l:List UInt8} {c:UInt8} (h:l.contains c=false):Rx l c = -1:=by
 apply EP
 intro j hj e
 have:c∈l:=by rw [←e];exact List.getElem_mem hj
 simp [this] at h
theorem filter_none {l:List UInt8} (h:l.contains 94=false):l.filter (fun b=>b.toNat != 94)=l:=by
 rw [List.filter_eq_self]
 intro b hb
 simp only [bne_iff_ne,ne_eq]
 intro e
 have:b=94:=by rw [←UInt8.toNat_inj];exact e
 subst this
 simp [hb] at h
theorem ig {w w':World} {v:Value} {l:List UInt8} (h:Own w w' 5 1 v l.length (byteCells l)):∃A c,v=.slice A l.length c:=by
 rcases h.own.2 with ⟨rfl,hn⟩ | ⟨g,cap,cur,rfl,_⟩
 ·rw [hn];exact⟨none,0,rfl⟩
 exact⟨_,_,rfl⟩
theorem kZ {w w':World} {v:Value} {l:List UInt8} (h:Own w w' 5 1 v l.length (byteCells l)) (hn:l.length≠0):∃g c,v=.slice (some ⟨g,0,none⟩) l.length c:=by
 rcases h.own.2 with ⟨rfl,hn'⟩ | ⟨g,cap,cur,rfl,_⟩
 ·exact absurd hn' hn
 exact⟨_,_,rfl⟩
theorem Ob {w w':World} {l:List UInt8} {g c:Nat} (h:Own w w' 5 1 (.slice (some ⟨g,0,none⟩) l.length c) l.length (byteCells l)) (k:Nat) (hk:k < l.length):w'.cell? ⟨g,k,none⟩=some (.int .u8 (l[k].toNat:Int)):=by
 have:=h.own.cells (g:=g) rfl k (.int .u8 (l[k].toNat:Int)) (by simp [byteCells,hk])
 rwa [gJ] at this
theorem jQ {w w':World} {l:List UInt8} {g c:Nat} {x:UInt8} (h:Own w w' 5 1 (.slice (some ⟨g,0,none⟩) l.length c) l.length (byteCells l)) (hl:l.length=1) (hx:l=[x]):w'.cell? ⟨g,0,none⟩=some (.int .u8 (x.toNat:Int)):=by
 have:=Ob h 0 (by omega)
 subst hx
 exact this
theorem dB {w w':World} {v:Value} {l:List UInt8} (h:Own w w' 5 1 v l.length (byteCells l)):(convert 213 9 v).run Tryz.prog w'=.ok (.string (mkS l)) w' :=
 bP h.own 213 9 Tryz.underlying213 Tryz.underlying5 Tryz.underlying9
theorem qp {w w':World} {r:List UInt8} {n:Nat} {v:Value} (h:Own w w' 5 1 v (n+1) (byteCells r++[.int .u8 94])) (_hn:n=r.length):(convert 213 9 v).run Tryz.prog w'=.ok (.string (mkS (r++[94]))) w':=by
 have e:byteCells r++[.int .u8 94]=byteCells (r++[94]):=by simp [byteCells]
 rw [e] at h
 exact bP h.own 213 9 Tryz.underlying213 Tryz.underlying5 Tryz.underlying9
theorem bg {w w2:World} {o:Obj} (h:Below (w.alloc o).heap.size (w.alloc o) w2):Below w.heap.size w w2:=((Below.refl _ _).alloc (Nat.le_refl _) _).trans (h.mono (by simp))
theorem dI {w w2:World} {X:Ws} (h:Below (w.alloc (.cells (uh X) 273)).heap.size (w.alloc (.cells (uh X) 273)) w2):w2.heap[w.heap.size]?=some (.cells (uh X) 273 (0,0)):=(h.block _ (by simp)).trans (heap_alloc_new w _)
theorem Hq (X:Ws) (p:UInt8→Bool) (h:dO X p) :
  (∀W,Calls Tryz.prog 220 #[.agg #[.int .u64 (X 0:Nat),.int .u64 (X 1:Nat),.int .u64 (X 2:Nat),.int .u64 (X 3:Nat)]] W fun e w'=>∃v,e=.returned v∧Own W w' 5 1 v (aS.filter p).length (byteCells (aS.filter p))) ∧
  (∀W,Calls Tryz.prog 221 #[.agg #[.int .u64 (X 0:Nat),.int .u64 (X 1:Nat),.int .u64 (X 2:Nat),.int .u64 (X 3:Nat)],.int .u8 93] W fun e w'=>e=.returned (.bool (p 93))∧Below W.heap.size W w') :=
 ⟨fun W=>Bv X p W h,fun W=>NU X p 93 W h⟩
theorem Oc (X:Ws) (p:UInt8→Bool) (w:World) (yes no res:List UInt8) (HX:Hid (dO X p)) (hle:yes.length≤256) (hmk:(mkS no).size≤256) (gU:(mkS yes).size≤256)
  (HB:Hid (∀W,Calls Tryz.prog 220 #[.agg #[.int .u64 (X 0:Nat),.int .u64 (X 1:Nat),.int .u64 (X 2:Nat),.int .u64 (X 3:Nat)]] W fun e w'=>∃v,e=.returned v∧Own W w' 5 1 v yes.length (byteCells yes)))
  (hl:yes.length=256) (HS:Hid (res=[46])) :
  Calls Tryz.prog 188 #[.agg #[.int .u64 (X 0:Nat),.int .u64 (X 1:Nat),.int .u64 (X 2:Nat),.int .u64 (X 3:Nat)]] w fun e w'=>e=.returned (.string (mkS res))∧Below w.heap.size w w':=by
 have HL:=hid hl
 clear hl
 go_enter Tryz.func188,Tryz.ntmps188
 go_wp2_with (first | (go_at_call 220;refine (HB.o _).mono ?_;rintro e w2 ⟨v,rfl,ho⟩;have jq:=hid (bg ho.below);have dL:=hid (dI ho.below);obtain⟨c0,c1,c2,c3⟩:=aU dL.o;have qA:=hid ho;obtain⟨A,cp,rfl⟩:=ig ho;have e1:((yes.length:Int)==256)=true:=(by rw [HL.o];rfl);clear ho))
 go_ret
 exact⟨cZ (by rw [HS.o];rfl),jq.o⟩
theorem Od (X:Ws) (p:UInt8→Bool) (w:World) (yes no res:List UInt8) (HX:Hid (dO X p)) (hle:yes.length≤256) (hmk:(mkS no).size≤256) (gU:(mkS yes).size≤256)
  (HB:Hid (∀W,Calls Tryz.prog 220 #[.agg #[.int .u64 (X 0:Nat),.int .u64 (X 1:Nat),.int .u64 (X 2:Nat),.int .u64 (X 3:Nat)]] W fun e w'=>∃v,e=.returned v∧Own W w' 5 1 v yes.length (byteCells yes)))
  (jP:Hid (((yes.length:Int)==256)=false)) (x:UInt8) (iB:Hid (yes.length=1)) (fV:Hid (yes=[x])) (e3:((x.toNat:Int)==46)=false) (e4:((x.toNat:Int)==91)=false) (HS:Hid (res=yes)) :
  Calls Tryz.prog 188 #[.agg #[.int .u64 (X 0:Nat),.int .u64 (X 1:Nat),.int .u64 (X 2:Nat),.int .u64 (X 3:Nat)]] w fun e w'=>e=.returned (.string (mkS res))∧Below w.heap.size w w':=by
 have jA:(yes.length:Int)≤256:=by omega
 have H0:Hid (0 < yes.length):=hid (by rw [iB.o];decide)
 have e5:((x.toNat:Int) != 46)=true:=by rw [bne,e3];rfl
 have e6:((x.toNat:Int) != 91)=true:=by rw [bne,e4];rfl
 go_enter Tryz.func188,Tryz.ntmps188
 go_wp2_with (first | (go_at_call 220;refine (HB.o _).mono ?_;rintro e w2 ⟨v,rfl,ho⟩;have jq:=hid (bg ho.below);have dL:=hid (dI ho.below);obtain⟨c0,c1,c2,c3⟩:=aU dL.o;have qA:=hid ho;obtain⟨g,cp,rfl⟩:=kZ ho (Nat.pos_iff_ne_zero.1 H0.o);have h0:0 < yes.length:=H0.o;have e1:=jP.o;have e2:((yes.length:Int)==1)=true:=(by rw [iB.o];rfl);have cell:=jQ ho iB.o fV.o;have hcv:=dB ho;clear ho))
 go_ret
 exact⟨cZ (by rw [HS.o]),jq.o⟩
theorem KU (X:Ws) (p:UInt8→Bool) (w:World) (yes no res:List UInt8) (HX:Hid (dO X p)) (hle:yes.length≤256) (hmk:(mkS no).size≤256) (gU:(mkS yes).size≤256)
  (HB:Hid (∀W,Calls Tryz.prog 220 #[.agg #[.int .u64 (X 0:Nat),.int .u64 (X 1:Nat),.int .u64 (X 2:Nat),.int .u64 (X 3:Nat)]] W fun e w'=>∃v,e=.returned v∧Own W w' 5 1 v yes.length (byteCells yes)))
  (jP:Hid (((yes.length:Int)==256)=false)) (hl1:yes.length≠1) (HH:Hid (∀W,Calls Tryz.prog 221 #[.agg #[.int .u64 (X 0:Nat),.int .u64 (X 1:Nat),.int .u64 (X 2:Nat),.int .u64 (X 3:Nat)],.int .u8 93] W fun e w'=>e=.returned (.bool true)∧Below W.heap.size W w')) (WM:Hid (∀Y:Ws,dO Y (fun b=>!p b)→∀W,Calls Tryz.prog 220 #[.agg #[.int .u64 (Y 0:Nat),.int .u64 (Y 1:Nat),.int .u64 (Y 2:Nat),.int .u64 (Y 3:Nat)]] W fun e w'=>∃v,e=.returned v∧Own W w' 5 1 v no.length (byteCells no))) (HS:Hid (res=[91,94]++no++[93])) :
  Calls Tryz.prog 188 #[.agg #[.int .u64 (X 0:Nat),.int .u64 (X 1:Nat),.int .u64 (X 2:Nat),.int .u64 (X 3:Nat)]] w fun e w'=>e=.returned (.string (mkS res))∧Below w.heap.size w w':=by
 have jA:(yes.length:Int)≤256:=by omega
 have iB:=hid hl1;clear hl1
 go_enter Tryz.func188,Tryz.ntmps188
 go_wp2_with (first | (go_at_call 220;refine (WM.o _ HY.o _).mono ?_;rintro e w5 ⟨u,rfl,ho⟩;have za:=hid (lK.o.trans (ho.below.mono lK.o.size));have hcv:=dB ho;clear ho) | (go_at_call 220;refine (HB.o _).mono ?_;rintro e w2 ⟨v,rfl,ho⟩;have jq:=hid (bg ho.below);have dL:=hid (dI ho.below);obtain⟨c0,c1,c2,c3⟩:=aU dL.o;have qA:=hid ho;obtain⟨A,cp,rfl⟩:=ig ho;have e1:=jP.o;have e2:((yes.length:Int)==1)=false:=(by rw [beq_eq_false_iff_ne];have:=iB.o;omega);clear ho) | (go_at_call 221;refine (HH.o _).mono ?_;rintro e w3 ⟨rfl,hb⟩;have fG:=hid (jq.o.trans (hb.mono jq.o.size));have hx3:=(hb.block _ (block_lt dL.o)).trans dL.o;have ku:=hid hx3;obtain⟨d0,d1,d2,d3⟩:=aU hx3;have ko:=hid (qA.o.call hb);have ES:=dB ko.o;clear hb hx3) | (go_at_call 186;refine (kT X p _ HX.o).mono ?_;rintro e w4 ⟨Y,rfl,hY,hb⟩;have HY:=hid hY;have lK:=hid (fG.o.trans (hb.mono fG.o.size));clear hb hY))
 go_ret
 exact⟨cZ (by rw [HS.o,show (⟨#[91,94]⟩:ByteArray)=mkS [91,94] from rfl,show (⟨#[93]⟩:ByteArray)=mkS [93] from rfl,dD,dD]),za.o⟩
theorem Hr (X:Ws) (p:UInt8→Bool) (w:World) (yes no res:List UInt8) (HX:Hid (dO X p)) (hle:yes.length≤256) (hmk:(mkS no).size≤256) (gU:(mkS yes).size≤256)
  (HB:Hid (∀W,Calls Tryz.prog 220 #[.agg #[.int .u64 (X 0:Nat),.int .u64 (X 1:Nat),.int .u64 (X 2:Nat),.int .u64 (X 3:Nat)]] W fun e w'=>∃v,e=.returned v∧Own W w' 5 1 v yes.length (byteCells yes)))
  (jP:Hid (((yes.length:Int)==256)=false)) (iB:Hid (yes.length=1)) (fV:Hid (yes=[46])) (HH:Hid (∀W,Calls Tryz.prog 221 #[.agg #[.int .u64 (X 0:Nat),.int .u64 (X 1:Nat),.int .u64 (X 2:Nat),.int .u64 (X 3:Nat)],.int .u8 93] W fun e w'=>e=.returned (.bool true)∧Below W.heap.size W w')) (WM:Hid (∀Y:Ws,dO Y (fun b=>!p b)→∀W,Calls Tryz.prog 220 #[.agg #[.int .u64 (Y 0:Nat),.int .u64 (Y 1:Nat),.int .u64 (Y 2:Nat),.int .u64 (Y 3:Nat)]] W fun e w'=>∃v,e=.returned v∧Own W w' 5 1 v no.length (byteCells no))) (HS:Hid (res=[91,94]++no++[93])) :
  Calls Tryz.prog 188 #[.agg #[.int .u64 (X 0:Nat),.int .u64 (X 1:Nat),.int .u64 (X 2:Nat),.int .u64 (X 3:Nat)]] w fun e w'=>e=.returned (.string (mkS res))∧Below w.heap.size w w':=by
 have jA:(yes.length:Int)≤256:=by omega
 have H0:Hid (0 < yes.length):=hid (by rw [iB.o];decide)
 go_enter Tryz.func188,Tryz.ntmps188
 go_wp2_with (first | (go_at_call 220;refine (WM.o _ HY.o _).mono ?_;rintro e w5 ⟨u,rfl,ho⟩;have za:=hid (lK.o.trans (ho.below.mono lK.o.size));have hcv:=dB ho;clear ho) | (go_at_call 220;refine (HB.o _).mono ?_;rintro e w2 ⟨v,rfl,ho⟩;have jq:=hid (bg ho.below);have dL:=hid (dI ho.below);obtain⟨c0,c1,c2,c3⟩:=aU dL.o;have qA:=hid ho;obtain⟨g,cp,rfl⟩:=kZ ho (Nat.pos_iff_ne_zero.1 H0.o);have h0:0 < yes.length:=H0.o;have e1:=jP.o;have e2:((yes.length:Int)==1)=true:=(by rw [iB.o];rfl);have cell:=jQ ho iB.o fV.o;clear ho) | (go_at_call 221;refine (HH.o _).mono ?_;rintro e w3 ⟨rfl,hb⟩;have fG:=hid (jq.o.trans (hb.mono jq.o.size));have hx3:=(hb.block _ (block_lt dL.o)).trans dL.o;have ku:=hid hx3;obtain⟨d0,d1,d2,d3⟩:=aU hx3;have ko:=hid (qA.o.call hb);have ES:=dB ko.o;clear hb hx3) | (go_at_call 186;refine (kT X p _ HX.o).mono ?_;rintro e w4 ⟨Y,rfl,hY,hb⟩;have HY:=hid hY;have lK:=hid (fG.o.trans (hb.mono fG.o.size));clear hb hY))
 go_ret
 exact⟨cZ (by rw [HS.o,show (⟨#[91,94]⟩:ByteArray)=mkS [91,94] from rfl,show (⟨#[93]⟩:ByteArray)=mkS [93] from rfl,dD,dD]),za.o⟩
theorem Ht (X:Ws) (p:UInt8→Bool) (w:World) (yes no res:List UInt8) (HX:Hid (dO X p)) (hle:yes.length≤256) (hmk:(mkS no).size≤256) (gU:(mkS yes).size≤256)
  (HB:Hid (∀W,Calls Tryz.prog 220 #[.agg #[.int .u64 (X 0:Nat),.int .u64 (X 1:Nat),.int .u64 (X 2:Nat),.int .u64 (X 3:Nat)]] W fun e w'=>∃v,e=.returned v∧Own W w' 5 1 v yes.length (byteCells yes)))
  (jP:Hid (((yes.length:Int)==256)=false)) (iB:Hid (yes.length=1)) (fV:Hid (yes=[91])) (HH:Hid (∀W,Calls Tryz.prog 221 #[.agg #[.int .u64 (X 0:Nat),.int .u64 (X 1:Nat),.int .u64 (X 2:Nat),.int .u64 (X 3:Nat)],.int .u8 93] W fun e w'=>e=.returned (.bool true)∧Below W.heap.size W w')) (WM:Hid (∀Y:Ws,dO Y (fun b=>!p b)→∀W,Calls Tryz.prog 220 #[.agg #[.int .u64 (Y 0:Nat),.int .u64 (Y 1:Nat),.int .u64 (Y 2:Nat),.int .u64 (Y 3:Nat)]] W fun e w'=>∃v,e=.returned v∧Own W w' 5 1 v no.length (byteCells no))) (HS:Hid (res=[91,94]++no++[93])) :
  Calls Tryz.prog 188 #[.agg #[.int .u64 (X 0:Nat),.int .u64 (X 1:Nat),.int .u64 (X 2:Nat),.int .u64 (X 3:Nat)]] w fun e w'=>e=.returned (.string (mkS res))∧Below w.heap.size w w':=by
 have jA:(yes.length:Int)≤256:=by omega
 have H0:Hid (0 < yes.length):=hid (by rw [iB.o];decide)
 go_enter Tryz.func188,Tryz.ntmps188
 go_wp2_with (first | (go_at_call 220;refine (WM.o _ HY.o _).mono ?_;rintro e w5 ⟨u,rfl,ho⟩;have za:=hid (lK.o.trans (ho.below.mono lK.o.size));have hcv:=dB ho;clear ho) | (go_at_call 220;refine (HB.o _).mono ?_;rintro e w2 ⟨v,rfl,ho⟩;have jq:=hid (bg ho.below);have dL:=hid (dI ho.below);obtain⟨c0,c1,c2,c3⟩:=aU dL.o;have qA:=hid ho;obtain⟨g,cp,rfl⟩:=kZ ho (Nat.pos_iff_ne_zero.1 H0.o);have h0:0 < yes.length:=H0.o;have e1:=jP.o;have e2:((yes.length:Int)==1)=true:=(by rw [iB.o];rfl);have cell:=jQ ho iB.o fV.o;clear ho) | (go_at_call 221;refine (HH.o _).mono ?_;rintro e w3 ⟨rfl,hb⟩;have fG:=hid (jq.o.trans (hb.mono jq.o.size));have hx3:=(hb.block _ (block_lt dL.o)).trans dL.o;have ku:=hid hx3;obtain⟨d0,d1,d2,d3⟩:=aU hx3;have ko:=hid (qA.o.call hb);have ES:=dB ko.o;clear hb hx3) | (go_at_call 186;refine (kT X p _ HX.o).mono ?_;rintro e w4 ⟨Y,rfl,hY,hb⟩;have HY:=hid hY;have lK:=hid (fG.o.trans (hb.mono fG.o.size));clear hb hY))
 go_ret
 exact⟨cZ (by rw [HS.o,show (⟨#[91,94]⟩:ByteArray)=mkS [91,94] from rfl,show (⟨#[93]⟩:ByteArray)=mkS [93] from rfl,dD,dD]),za.o⟩
theorem KV (X:Ws) (p:UInt8→Bool) (w:World) (yes no res:List UInt8) (HX:Hid (dO X p)) (hle:yes.length≤256) (hmk:(mkS no).size≤256) (gU:(mkS yes).size≤256)
  (HB:Hid (∀W,Calls Tryz.prog 220 #[.agg #[.int .u64 (X 0:Nat),.int .u64 (X 1:Nat),.int .u64 (X 2:Nat),.int .u64 (X 3:Nat)]] W fun e w'=>∃v,e=.returned v∧Own W w' 5 1 v yes.length (byteCells yes)))
  (jP:Hid (((yes.length:Int)==256)=false)) (hl1:yes.length≠1) (HH:Hid (∀W,Calls Tryz.prog 221 #[.agg #[.int .u64 (X 0:Nat),.int .u64 (X 1:Nat),.int .u64 (X 2:Nat),.int .u64 (X 3:Nat)],.int .u8 93] W fun e w'=>e=.returned (.bool false)∧Below W.heap.size W w')) (k:Nat) (hk:k < yes.length) (r:List UInt8) (Fb:Hid (r.length≤256)) (HD:Hid (∀w0 W g cap,Own w0 W 5 1 (.slice (some ⟨g,0,none⟩) yes.length cap) yes.length (byteCells yes)→Calls Tryz.prog 223 #[.slice (some ⟨g,0,none⟩) yes.length cap,.int .i64 (k:Int),.int .i64 ((k:Int)+1)] W (N8 w0 g cap r))) (HI:Hid (∀W v,Rd W 1 v yes.length (byteCells yes)→Calls Tryz.prog 222 #[v,.int .u8 94] W fun e w'=>e=.returned (.int .i64 (k:Int))∧W=w')) (HS:Hid (res=[91]++(r++[94])++[93])) :
  Calls Tryz.prog 188 #[.agg #[.int .u64 (X 0:Nat),.int .u64 (X 1:Nat),.int .u64 (X 2:Nat),.int .u64 (X 3:Nat)]] w fun e w'=>e=.returned (.string (mkS res))∧Below w.heap.size w w':=by
 have jA:(yes.length:Int)≤256:=by omega
 have iB:=hid hl1;clear hl1
 have H0:Hid (0 < yes.length):=hid (by omega)
 obtain⟨i0,hi,hz0,hz1,hz2⟩:=info_parts fE
 have hk0:(0:Int)≤(k:Int):=by omega
 have hk1:k≤256:=by omega
 have R4:(mkS (r++[94])).size≤257:=by rw [aG];have:=Fb.o;simp;omega
 go_enter Tryz.func188,Tryz.ntmps188
 go_wp2_with (first | (go_at_call 220;refine (HB.o _).mono ?_;rintro e w2 ⟨v,rfl,ho⟩;have jq:=hid (bg ho.below);have dL:=hid (dI ho.below);obtain⟨c0,c1,c2,c3⟩:=aU dL.o;have qA:=hid ho;obtain⟨g,cp,rfl⟩:=kZ ho (Nat.pos_iff_ne_zero.1 H0.o);have h0:0 < yes.length:=H0.o;have e1:=jP.o;have e2:((yes.length:Int)==1)=false:=(by rw [beq_eq_false_iff_ne];have:=iB.o;omega);clear ho) | (go_at_call 221;refine (HH.o _).mono ?_;rintro e w3 ⟨rfl,hb⟩;have fG:=hid (jq.o.trans (hb.mono jq.o.size));have hx3:=(hb.block _ (block_lt dL.o)).trans dL.o;have ku:=hid hx3;obtain⟨d0,d1,d2,d3⟩:=aU hx3;have ko:=hid (qA.o.call hb);have ES:=dB ko.o;clear hb hx3) | (go_at_call 222;refine (HI.o _ _ (Rd.aN ko.o.own)).mono ?_;rintro e w6 ⟨rfl,rfl⟩) | (go_at_call 223;refine (HD.o _ _ _ _ ko.o).mono ?_;rintro e w7 ⟨n7,Ry,rfl,Rz⟩;have WO:=hid Ry;have WQ:n7≤256:=(by have:=Fb.o;omega);have WR:n7 < 2 ^ 62:=(by omega);have Ed:=hid Rz;clear Rz Ry) | (at_builtin;refine aB rfl _ _ 213 rfl (w.alloc (.cells (uh X) 273)).heap.size 5 i0 (.int .u8 0) 1 Tryz.underlying213 hi hz0 hz1 hz2 rfl _ _ _ rfl Ed.o.own _ rfl rfl (by unfold maxLen;omega) (by omega) Ed.o.size ?_;intro g8 LW w8 hown hg;have RA:=hid (Ed.o.push hown hg);have R5:=qp RA.o WO.o;clear hown hg))
 go_ret
 exact⟨cZ (by rw [HS.o,show (⟨#[91]⟩:ByteArray)=mkS [91] from rfl,show (⟨#[93]⟩:ByteArray)=mkS [93] from rfl,dD,dD]),bg RA.o.below⟩
theorem Hu (X:Ws) (p:UInt8→Bool) (w:World) (yes no res:List UInt8) (HX:Hid (dO X p)) (hle:yes.length≤256) (hmk:(mkS no).size≤256) (gU:(mkS yes).size≤256)
  (HB:Hid (∀W,Calls Tryz.prog 220 #[.agg #[.int .u64 (X 0:Nat),.int .u64 (X 1:Nat),.int .u64 (X 2:Nat),.int .u64 (X 3:Nat)]] W fun e w'=>∃v,e=.returned v∧Own W w' 5 1 v yes.length (byteCells yes)))
  (jP:Hid (((yes.length:Int)==256)=false)) (iB:Hid (yes.length=1)) (fV:Hid (yes=[46])) (HH:Hid (∀W,Calls Tryz.prog 221 #[.agg #[.int .u64 (X 0:Nat),.int .u64 (X 1:Nat),.int .u64 (X 2:Nat),.int .u64 (X 3:Nat)],.int .u8 93] W fun e w'=>e=.returned (.bool false)∧Below W.heap.size W w')) (k:Nat) (hk:k < yes.length) (r:List UInt8) (Fb:Hid (r.length≤256)) (HD:Hid (∀w0 W g cap,Own w0 W 5 1 (.slice (some ⟨g,0,none⟩) yes.length cap) yes.length (byteCells yes)→Calls Tryz.prog 223 #[.slice (some ⟨g,0,none⟩) yes.length cap,.int .i64 (k:Int),.int .i64 ((k:Int)+1)] W (N8 w0 g cap r))) (HI:Hid (∀W v,Rd W 1 v yes.length (byteCells yes)→Calls Tryz.prog 222 #[v,.int .u8 94] W fun e w'=>e=.returned (.int .i64 (k:Int))∧W=w')) (HS:Hid (res=[91]++(r++[94])++[93])) :
  Calls Tryz.prog 188 #[.agg #[.int .u64 (X 0:Nat),.int .u64 (X 1:Nat),.int .u64 (X 2:Nat),.int .u64 (X 3:Nat)]] w fun e w'=>e=.returned (.string (mkS res))∧Below w.heap.size w w':=by
 have jA:(yes.length:Int)≤256:=by omega
 have H0:Hid (0 < yes.length):=hid (by rw [iB.o];decide)
 obtain⟨i0,hi,hz0,hz1,hz2⟩:=info_parts fE
 have hk0:(0:Int)≤(k:Int):=by omega
 have hk1:k≤256:=by omega
 have R4:(mkS (r++[94])).size≤257:=by rw [aG];have:=Fb.o;simp;omega
 go_enter Tryz.func188,Tryz.ntmps188
 go_wp2_with (first | (go_at_call 220;refine (HB.o _).mono ?_;rintro e w2 ⟨v,rfl,ho⟩;have jq:=hid (bg ho.below);have dL:=hid (dI ho.below);obtain⟨c0,c1,c2,c3⟩:=aU dL.o;have qA:=hid ho;obtain⟨g,cp,rfl⟩:=kZ ho (Nat.pos_iff_ne_zero.1 H0.o);have h0:0 < yes.length:=H0.o;have e1:=jP.o;have e2:((yes.length:Int)==1)=true:=(by rw [iB.o];rfl);have cell:=jQ ho iB.o fV.o;clear ho) | (go_at_call 221;refine (HH.o _).mono ?_;rintro e w3 ⟨rfl,hb⟩;have fG:=hid (jq.o.trans (hb.mono jq.o.size));have hx3:=(hb.block _ (block_lt dL.o)).trans dL.o;have ku:=hid hx3;obtain⟨d0,d1,d2,d3⟩:=aU hx3;have ko:=hid (qA.o.call hb);have ES:=dB ko.o;clear hb hx3) | (go_at_call 222;refine (HI.o _ _ (Rd.aN ko.o.own)).mono ?_;rintro e w6 ⟨rfl,rfl⟩) | (go_at_call 223;refine (HD.o _ _ _ _ ko.o).mono ?_;rintro e w7 ⟨n7,Ry,rfl,Rz⟩;have WO:=hid Ry;have WQ:n7≤256:=(by have:=Fb.o;omega);have WR:n7 < 2 ^ 62:=(by omega);have Ed:=hid Rz;clear Rz Ry) | (at_builtin;refine aB rfl _ _ 213 rfl (w.alloc (.cells (uh X) 273)).heap.size 5 i0 (.int .u8 0) 1 Tryz.underlying213 hi hz0 hz1 hz2 rfl _ _ _ rfl Ed.o.own _ rfl rfl (by unfold maxLen;omega) (by omega) Ed.o.size ?_;intro g8 LW w8 hown hg;have RA:=hid (Ed.o.push hown hg);have R5:=qp RA.o WO.o;clear hown hg))
 go_ret
 exact⟨cZ (by rw [HS.o,show (⟨#[91]⟩:ByteArray)=mkS [91] from rfl,show (⟨#[93]⟩:ByteArray)=mkS [93] from rfl,dD,dD]),bg RA.o.below⟩
theorem Hw (X:Ws) (p:UInt8→Bool) (w:World) (yes no res:List UInt8) (HX:Hid (dO X p)) (hle:yes.length≤256) (hmk:(mkS no).size≤256) (gU:(mkS yes).size≤256)
  (HB:Hid (∀W,Calls Tryz.prog 220 #[.agg #[.int .u64 (X 0:Nat),.int .u64 (X 1:Nat),.int .u64 (X 2:Nat),.int .u64 (X 3:Nat)]] W fun e w'=>∃v,e=.returned v∧Own W w' 5 1 v yes.length (byteCells yes)))
  (jP:Hid (((yes.length:Int)==256)=false)) (iB:Hid (yes.length=1)) (fV:Hid (yes=[91])) (HH:Hid (∀W,Calls Tryz.prog 221 #[.agg #[.int .u64 (X 0:Nat),.int .u64 (X 1:Nat),.int .u64 (X 2:Nat),.int .u64 (X 3:Nat)],.int .u8 93] W fun e w'=>e=.returned (.bool false)∧Below W.heap.size W w')) (k:Nat) (hk:k < yes.length) (r:List UInt8) (Fb:Hid (r.length≤256)) (HD:Hid (∀w0 W g cap,Own w0 W 5 1 (.slice (some ⟨g,0,none⟩) yes.length cap) yes.length (byteCells yes)→Calls Tryz.prog 223 #[.slice (some ⟨g,0,none⟩) yes.length cap,.int .i64 (k:Int),.int .i64 ((k:Int)+1)] W (N8 w0 g cap r))) (HI:Hid (∀W v,Rd W 1 v yes.length (byteCells yes)→Calls Tryz.prog 222 #[v,.int .u8 94] W fun e w'=>e=.returned (.int .i64 (k:Int))∧W=w')) (HS:Hid (res=[91]++(r++[94])++[93])) :
  Calls Tryz.prog 188 #[.agg #[.int .u64 (X 0:Nat),.int .u64 (X 1:Nat),.int .u64 (X 2:Nat),.int .u64 (X 3:Nat)]] w fun e w'=>e=.returned (.string (mkS res))∧Below w.heap.size w w':=by
 have jA:(yes.length:Int)≤256:=by omega
 have H0:Hid (0 < yes.length):=hid (by rw [iB.o];decide)
 obtain⟨i0,hi,hz0,hz1,hz2⟩:=info_parts fE
 have hk0:(0:Int)≤(k:Int):=by omega
 have hk1:k≤256:=by omega
 have R4:(mkS (r++[94])).size≤257:=by rw [aG];have:=Fb.o;simp;omega
 go_enter Tryz.func188,Tryz.ntmps188
 go_wp2_with (first | (go_at_call 220;refine (HB.o _).mono ?_;rintro e w2 ⟨v,rfl,ho⟩;have jq:=hid (bg ho.below);have dL:=hid (dI ho.below);obtain⟨c0,c1,c2,c3⟩:=aU dL.o;have qA:=hid ho;obtain⟨g,cp,rfl⟩:=kZ ho (Nat.pos_iff_ne_zero.1 H0.o);have h0:0 < yes.length:=H0.o;have e1:=jP.o;have e2:((yes.length:Int)==1)=true:=(by rw [iB.o];rfl);have cell:=jQ ho iB.o fV.o;clear ho) | (go_at_call 221;refine (HH.o _).mono ?_;rintro e w3 ⟨rfl,hb⟩;have fG:=hid (jq.o.trans (hb.mono jq.o.size));have hx3:=(hb.block _ (block_lt dL.o)).trans dL.o;have ku:=hid hx3;obtain⟨d0,d1,d2,d3⟩:=aU hx3;have ko:=hid (qA.o.call hb);have ES:=dB ko.o;clear hb hx3) | (go_at_call 222;refine (HI.o _ _ (Rd.aN ko.o.own)).mono ?_;rintro e w6 ⟨rfl,rfl⟩) | (go_at_call 223;refine (HD.o _ _ _ _ ko.o).mono ?_;rintro e w7 ⟨n7,Ry,rfl,Rz⟩;have WO:=hid Ry;have WQ:n7≤256:=(by have:=Fb.o;omega);have WR:n7 < 2 ^ 62:=(by omega);have Ed:=hid Rz;clear Rz Ry) | (at_builtin;refine aB rfl _ _ 213 rfl (w.alloc (.cells (uh X) 273)).heap.size 5 i0 (.int .u8 0) 1 Tryz.underlying213 hi hz0 hz1 hz2 rfl _ _ _ rfl Ed.o.own _ rfl rfl (by unfold maxLen;omega) (by omega) Ed.o.size ?_;intro g8 LW w8 hown hg;have RA:=hid (Ed.o.push hown hg);have R5:=qp RA.o WO.o;clear hown hg))
 go_ret
 exact⟨cZ (by rw [HS.o,show (⟨#[91]⟩:ByteArray)=mkS [91] from rfl,show (⟨#[93]⟩:ByteArray)=mkS [93] from rfl,dD,dD]),bg RA.o.below⟩
theorem KW (X:Ws) (p:UInt8→Bool) (w:World) (yes no res:List UInt8) (HX:Hid (dO X p)) (hle:yes.length≤256) (hmk:(mkS no).size≤256) (gU:(mkS yes).size≤256)
  (HB:Hid (∀W,Calls Tryz.prog 220 #[.agg #[.int .u64 (X 0:Nat),.int .u64 (X 1:Nat),.int .u64 (X 2:Nat),.int .u64 (X 3:Nat)]] W fun e w'=>∃v,e=.returned v∧Own W w' 5 1 v yes.length (byteCells yes)))
  (jP:Hid (((yes.length:Int)==256)=false)) (hl1:yes.length≠1) (HH:Hid (∀W,Calls Tryz.prog 221 #[.agg #[.int .u64 (X 0:Nat),.int .u64 (X 1:Nat),.int .u64 (X 2:Nat),.int .u64 (X 3:Nat)],.int .u8 93] W fun e w'=>e=.returned (.bool false)∧Below W.heap.size W w')) (HI:Hid (∀W v,Rd W 1 v yes.length (byteCells yes)→Calls Tryz.prog 222 #[v,.int .u8 94] W fun e w'=>e=.returned (.int .i64 (-1))∧W=w')) (HS:Hid (res=[91]++yes++[93])) :
  Calls Tryz.prog 188 #[.agg #[.int .u64 (X 0:Nat),.int .u64 (X 1:Nat),.int .u64 (X 2:Nat),.int .u64 (X 3:Nat)]] w fun e w'=>e=.returned (.string (mkS res))∧Below w.heap.size w w':=by
 have jA:(yes.length:Int)≤256:=by omega
 have iB:=hid hl1;clear hl1
 go_enter Tryz.func188,Tryz.ntmps188
 go_wp2_with (first | (go_at_call 220;refine (HB.o _).mono ?_;rintro e w2 ⟨v,rfl,ho⟩;have jq:=hid (bg ho.below);have dL:=hid (dI ho.below);obtain⟨c0,c1,c2,c3⟩:=aU dL.o;have qA:=hid ho;obtain⟨A,cp,rfl⟩:=ig ho;have e1:=jP.o;have e2:((yes.length:Int)==1)=false:=(by rw [beq_eq_false_iff_ne];have:=iB.o;omega);clear ho) | (go_at_call 221;refine (HH.o _).mono ?_;rintro e w3 ⟨rfl,hb⟩;have fG:=hid (jq.o.trans (hb.mono jq.o.size));have hx3:=(hb.block _ (block_lt dL.o)).trans dL.o;have ku:=hid hx3;obtain⟨d0,d1,d2,d3⟩:=aU hx3;have ko:=hid (qA.o.call hb);have ES:=dB ko.o;clear hb hx3) | (go_at_call 222;refine (HI.o _ _ (Rd.aN ko.o.own)).mono ?_;rintro e w6 ⟨rfl,rfl⟩))
 go_ret
 exact⟨cZ (by rw [HS.o,show (⟨#[91]⟩:ByteArray)=mkS [91] from rfl,show (⟨#[93]⟩:ByteArray)=mkS [93] from rfl,dD,dD]),fG.o⟩
theorem Hy (X:Ws) (p:UInt8→Bool) (w:World) (yes no res:List UInt8) (HX:Hid (dO X p)) (hle:yes.length≤256) (hmk:(mkS no).size≤256) (gU:(mkS yes).size≤256)
  (HB:Hid (∀W,Calls Tryz.prog 220 #[.agg #[.int .u64 (X 0:Nat),.int .u64 (X 1:Nat),.int .u64 (X 2:Nat),.int .u64 (X 3:Nat)]] W fun e w'=>∃v,e=.returned v∧Own W w' 5 1 v yes.length (byteCells yes)))
  (jP:Hid (((yes.length:Int)==256)=false)) (iB:Hid (yes.length=1)) (fV:Hid (yes=[46])) (HH:Hid (∀W,Calls Tryz.prog 221 #[.agg #[.int .u64 (X 0:Nat),.int .u64 (X 1:Nat),.int .u64 (X 2:Nat),.int .u64 (X 3:Nat)],.int .u8 93] W fun e w'=>e=.returned (.bool false)∧Below W.heap.size W w')) (HI:Hid (∀W v,Rd W 1 v yes.length (byteCells yes)→Calls Tryz.prog 222 #[v,.int .u8 94] W fun e w'=>e=.returned (.int .i64 (-1))∧W=w')) (HS:Hid (res=[91]++yes++[93])) :
  Calls Tryz.prog 188 #[.agg #[.int .u64 (X 0:Nat),.int .u64 (X 1:Nat),.int .u64 (X 2:Nat),.int .u64 (X 3:Nat)]] w fun e w'=>e=.returned (.string (mkS res))∧Below w.heap.size w w':=by
 have jA:(yes.length:Int)≤256:=by omega
 have H0:Hid (0 < yes.length):=hid (by rw [iB.o];decide)
 go_enter Tryz.func188,Tryz.ntmps188
 go_wp2_with (first | (go_at_call 220;refine (HB.o _).mono ?_;rintro e w2 ⟨v,rfl,ho⟩;have jq:=hid (bg ho.below);have dL:=hid (dI ho.below);obtain⟨c0,c1,c2,c3⟩:=aU dL.o;have qA:=hid ho;obtain⟨g,cp,rfl⟩:=kZ ho (Nat.pos_iff_ne_zero.1 H0.o);have h0:0 < yes.length:=H0.o;have e1:=jP.o;have e2:((yes.length:Int)==1)=true:=(by rw [iB.o];rfl);have cell:=jQ ho iB.o fV.o;clear ho) | (go_at_call 221;refine (HH.o _).mono ?_;rintro e w3 ⟨rfl,hb⟩;have fG:=hid (jq.o.trans (hb.mono jq.o.size));have hx3:=(hb.block _ (block_lt dL.o)).trans dL.o;have ku:=hid hx3;obtain⟨d0,d1,d2,d3⟩:=aU hx3;have ko:=hid (qA.o.call hb);have ES:=dB ko.o;clear hb hx3) | (go_at_call 222;refine (HI.o _ _ (Rd.aN ko.o.own)).mono ?_;rintro e w6 ⟨rfl,rfl⟩))
 go_ret
 exact⟨cZ (by rw [HS.o,show (⟨#[91]⟩:ByteArray)=mkS [91] from rfl,show (⟨#[93]⟩:ByteArray)=mkS [93] from rfl,dD,dD]),fG.o⟩
theorem Hz (X:Ws) (p:UInt8→Bool) (w:World) (yes no res:List UInt8) (HX:Hid (dO X p)) (hle:yes.length≤256) (hmk:(mkS no).size≤256) (gU:(mkS yes).size≤256)
  (HB:Hid (∀W,Calls Tryz.prog 220 #[.agg #[.int .u64 (X 0:Nat),.int .u64 (X 1:Nat),.int .u64 (X 2:Nat),.int .u64 (X 3:Nat)]] W fun e w'=>∃v,e=.returned v∧Own W w' 5 1 v yes.length (byteCells yes)))
  (jP:Hid (((yes.length:Int)==256)=false)) (iB:Hid (yes.length=1)) (fV:Hid (yes=[91])) (HH:Hid (∀W,Calls Tryz.prog 221 #[.agg #[.int .u64 (X 0:Nat),.int .u64 (X 1:Nat),.int .u64 (X 2:Nat),.int .u64 (X 3:Nat)],.int .u8 93] W fun e w'=>e=.returned (.bool false)∧Below W.heap.size W w')) (HI:Hid (∀W v,Rd W 1 v yes.length (byteCells yes)→Calls Tryz.prog 222 #[v,.int .u8 94] W fun e w'=>e=.returned (.int .i64 (-1))∧W=w')) (HS:Hid (res=[91]++yes++[93])) :
  Calls Tryz.prog 188 #[.agg #[.int .u64 (X 0:Nat),.int .u64 (X 1:Nat),.int .u64 (X 2:Nat),.int .u64 (X 3:Nat)]] w fun e w'=>e=.returned (.string (mkS res))∧Below w.heap.size w w':=by
 have jA:(yes.length:Int)≤256:=by omega
 have H0:Hid (0 < yes.length):=hid (by rw [iB.o];decide)
 go_enter Tryz.func188,Tryz.ntmps188
 go_wp2_with (first | (go_at_call 220;refine (HB.o _).mono ?_;rintro e w2 ⟨v,rfl,ho⟩;have jq:=hid (bg ho.below);have dL:=hid (dI ho.below);obtain⟨c0,c1,c2,c3⟩:=aU dL.o;have qA:=hid ho;obtain⟨g,cp,rfl⟩:=kZ ho (Nat.pos_iff_ne_zero.1 H0.o);have h0:0 < yes.length:=H0.o;have e1:=jP.o;have e2:((yes.length:Int)==1)=true:=(by rw [iB.o];rfl);have cell:=jQ ho iB.o fV.o;clear ho) | (go_at_call 221;refine (HH.o _).mono ?_;rintro e w3 ⟨rfl,hb⟩;have fG:=hid (jq.o.trans (hb.mono jq.o.size));have hx3:=(hb.block _ (block_lt dL.o)).trans dL.o;have ku:=hid hx3;obtain⟨d0,d1,d2,d3⟩:=aU hx3;have ko:=hid (qA.o.call hb);have ES:=dB ko.o;clear hb hx3) | (go_at_call 222;refine (HI.o _ _ (Rd.aN ko.o.own)).mono ?_;rintro e w6 ⟨rfl,rfl⟩))
 go_ret
 exact⟨cZ (by rw [HS.o,show (⟨#[91]⟩:ByteArray)=mkS [91] from rfl,show (⟨#[93]⟩:ByteArray)=mkS [93] from rfl,dD,dD]),fG.o⟩
theorem Oe (X:Ws) (p:UInt8→Bool) (w:World) (h:dO X p) :
  Calls Tryz.prog 188 #[.agg #[.int .u64 (X 0:Nat),.int .u64 (X 1:Nat),.int .u64 (X 2:Nat),.int .u64 (X 3:Nat)]] w fun e w'=>e=.returned (.string (mkS (nH p)))∧Below w.heap.size w w':=by
 obtain⟨hb1,Ga⟩:=Hq X p h
 obtain⟨yes,hyes⟩:∃y,aS.filter p=y:=⟨_,rfl⟩
 obtain⟨no,hno⟩:∃y,aS.filter (fun b=>!p b)=y:=⟨_,rfl⟩
 have hle:yes.length≤256:=by rw [←hyes,←jO];exact List.length_filter_le _ _
 have qK:no.length≤256:=by rw [←hno,←jO];exact List.length_filter_le _ _
 have hfull:yes.length=256↔no=[]:=by rw [←hno,←hyes,←vO,jO]
 have hnd:yes.Nodup:=by rw [←hyes];exact KT.filter _
 have hsh:nH p=if no=[] then [46] else if yes.length=1∧yes≠[46]∧yes≠[91] then yes else if p 93=true then [91,94]++no++[93] else [91]++yes.filter (fun b=>b.toNat != 94)++(if yes.contains 94=true then [94] else [])++[93]:=by
  rw [←hno,←hyes];rfl
 rw [hyes] at hb1
 have hbn:∀Y:Ws,dO Y (fun b=>!p b)→∀W,Calls Tryz.prog 220 #[.agg #[.int .u64 (Y 0:Nat),.int .u64 (Y 1:Nat),.int .u64 (Y 2:Nat),.int .u64 (Y 3:Nat)]] W fun e w'=>∃v,e=.returned v∧Own W w' 5 1 v no.length (byteCells no):=fun Y hY W=>by
  have:=Bv Y _ W hY
  rwa [hno] at this
 have hmk:(mkS no).size≤256:=by rw [aG];exact qK
 have gU:(mkS yes).size≤256:=by rw [aG];exact hle
 generalize nH p=res at hsh ⊢
 by_cases c1:no=[]
 ·rw [if_pos c1] at hsh
  exact Oc X p w yes no res (hid h) hle hmk gU (hid hb1) (hfull.2 c1) (hid hsh)
 rw [if_neg c1] at hsh
 have abb:yes.length≠256:=fun e=>c1 (hfull.1 e)
 have jP:Hid (((yes.length:Int)==256)=false):=hid (by rw [beq_eq_false_iff_ne];omega)
 by_cases c2:yes.length=1∧yes≠[46]∧yes≠[91]
 ·rw [if_pos c2] at hsh
  obtain⟨hl1,hn1,hn2⟩:=c2;obtain⟨x,hx⟩:=List.length_eq_one_iff.1 hl1
  have e3:((x.toNat:Int)==46)=false:=by
   rw [beq_eq_false_iff_ne];intro e
   exact hn1 (by rw [hx];congr 1;rw [←UInt8.toNat_inj];show x.toNat=46;omega)
  have e4:((x.toNat:Int)==91)=false:=by
   rw [beq_eq_false_iff_ne];intro e
   exact hn2 (by rw [hx];congr 1;rw [←UInt8.toNat_inj];show x.toNat=91;omega)
  exact Od X p w yes no res (hid h) hle hmk gU (hid hb1) jP x (hid hl1) (hid hx) e3 e4 (hid hsh)
 rw [if_neg c2] at hsh
 have hw:yes.length≠1∨(yes.length=1∧yes=[46])∨(yes.length=1∧yes=[91]):=by
  by_cases a:yes.length=1
  ·by_cases b:yes=[46]
   ·exact .inr (.inl ⟨a,b⟩)
   by_cases c:yes=[91]
   ·exact .inr (.inr ⟨a,c⟩)
   exact absurd ⟨a,b,c⟩ c2
  exact .inl a
 by_cases c3:p 93=true
 ·rw [if_pos c3] at hsh
  rw [c3] at Ga
  rcases hw with a | ⟨a,b⟩ | ⟨a,b⟩
  ·exact KU X p w yes no res (hid h) hle hmk gU (hid hb1) jP a (hid Ga) (hid hbn) (hid hsh)
  ·exact Hr X p w yes no res (hid h) hle hmk gU (hid hb1) jP (hid a) (hid b) (hid Ga) (hid hbn) (hid hsh)
  exact Ht X p w yes no res (hid h) hle hmk gU (hid hb1) jP (hid a) (hid b) (hid Ga) (hid hbn) (hid hsh)
 rw [if_neg c3] at hsh;rw [Bool.not_eq_true] at c3;rw [c3] at Ga
 by_cases c4:yes.contains 94=true
 ·rw [if_pos c4] at hsh
  obtain⟨k,hk,hke,hix⟩:=N_ c4
  have hr:yes.take k++yes.drop (k+1)=yes.filter (fun b=>b.toNat != 94):=N9 hnd hk 94 hke
  have HI:Hid (∀W v,Rd W 1 v yes.length (byteCells yes)→Calls Tryz.prog 222 #[v,.int .u8 94] W fun e w'=>e=.returned (.int .i64 (k:Int))∧W=w'):=hid (fun W v h=>by
   have:=Bw v yes 94 W h (by omega)
   rwa [hix] at this)
  obtain⟨r,hrr⟩:∃r,yes.filter (fun b=>b.toNat != 94)=r:=⟨_,rfl⟩
  have Fb:Hid (r.length≤256):=hid (by rw [←hrr];exact Nat.le_trans (List.length_filter_le _ _) hle)
  have HD:Hid (∀w0 W g cap,Own w0 W 5 1 (.slice (some ⟨g,0,none⟩) yes.length cap) yes.length (byteCells yes)→Calls Tryz.prog 223 #[.slice (some ⟨g,0,none⟩) yes.length cap,.int .i64 (k:Int),.int .i64 ((k:Int)+1)] W (N8 w0 g cap r)):=hid (fun w0 W g cap h=>by
   have:=Ho w0 W g cap yes k h hk (by omega)
   rwa [hr,hrr] at this)
  rw [hrr] at hsh
  have hs2:res=[91]++(r++[94])++[93]:=by rw [hsh];simp
  rcases hw with a | ⟨a,b⟩ | ⟨a,b⟩
  ·exact KV X p w yes no res (hid h) hle hmk gU (hid hb1) jP a (hid Ga) k hk r Fb HD HI (hid hs2)
  ·exact Hu X p w yes no res (hid h) hle hmk gU (hid hb1) jP (hid a) (hid b) (hid Ga) k hk r Fb HD HI (hid hs2)
  exact Hw X p w yes no res (hid h) hle hmk gU (hid hb1) jP (hid a) (hid b) (hid Ga) k hk r Fb HD HI (hid hs2)
 rw [if_neg c4] at hsh;rw [Bool.not_eq_true] at c4
 have HI:Hid (∀W v,Rd W 1 v yes.length (byteCells yes)→Calls Tryz.prog 222 #[v,.int .u8 94] W fun e w'=>e=.returned (.int .i64 (-1))∧W=w'):=hid (fun W v h=>by
  have:=Bw v yes 94 W h (by omega)
  rwa [Oa c4] at this)
 rw [filter_none c4,List.append_nil] at hsh
 rcases hw with a | ⟨a,b⟩ | ⟨a,b⟩
 ·exact KW X p w yes no res (hid h) hle hmk gU (hid hb1) jP a (hid Ga) HI (hid hsh)
 ·exact Hy X p w yes no res (hid h) hle hmk gU (hid hb1) jP (hid a) (hid b) (hid Ga) HI (hid hsh)
 exact Hz X p w yes no res (hid h) hle hmk gU (hid hb1) jP (hid a) (hid b) (hid Ga) HI (hid hsh)
theorem z_ (p:UInt8→Bool):(nH p).length≤260:=by
 have h1:(aS.filter p).length≤256:=by rw [←jO];exact List.length_filter_le _ _
 have h2:(aS.filter (fun b=>!p b)).length≤256:=by rw [←jO];exact List.length_filter_le _ _
 have h3:((aS.filter p).filter (fun b=>b.toNat != 94)).length≤(aS.filter p).length:=List.length_filter_le _ _
 simp only [nH]
 split
 ·simp
 split
 ·omega
 split
 ·simp;omega
 split<;>simp only [List.length_append,List.length_cons,List.length_nil]<;>omega
theorem zY (ts:List (List UInt8)) (k:Nat) (hk:k < ts.length):(ts.take (k+1)).flatMap fJ=(ts.take k).flatMap fJ++nH (cO ts[k]):=by
 rw [List.take_succ_eq_append_getElem hk,List.flatMap_append]
 simp [zZ]
def Og (w:World) (v:Value) (ts:List (List UInt8)):Prop:=∃Xs,KS Xs ts∧Rd w 4 v ts.length (gF Xs)
theorem Og.keep {w w':World} {v:Value} {ts:List (List UInt8)} (h:Og w v ts) (hb:Below w.heap.size w w'):Og w' v ts:=by
 obtain⟨Xs,h1,h2⟩:=h
 exact⟨Xs,h1,h2.keep hb⟩
theorem RD:∀(Xs:List Ws) (k:Nat) (hk:k < Xs.length) (j:Nat),j < 4→(gF Xs)[k*4+j]?=some (.int .u64 ((Xs[k] j:Nat):Int))
 | [],_,hk,_,_=>absurd hk (Nat.not_lt_zero _)
 | X::r,0,_,j,hj=>by
   show ([Value.int .u64 (X 0:Nat),.int .u64 (X 1:Nat),.int .u64 (X 2:Nat),.int .u64 (X 3:Nat)]++gF r)[0*4+j]?=_
   rw [Nat.zero_mul,Nat.zero_add,List.getElem?_append_left (by simpa using hj)]
   rcases j with _ | _ | _ | _ | j
   ·rfl
   ·rfl
   ·rfl
   ·rfl
   ·omega
 | X::r,k+1,hk,j,hj=>by
   show ([Value.int .u64 (X 0:Nat),.int .u64 (X 1:Nat),.int .u64 (X 2:Nat),.int .u64 (X 3:Nat)]++gF r)[(k+1)*4+j]?=_
   rw [List.getElem?_append_right (by simp;omega)]
   have:=RD r k (by simpa using hk) j hj
   simp only [List.length_cons,List.length_nil,List.getElem_cons_succ];rw [←this];congr 1;omega
theorem CF {w w2:World} {o:Obj} {B:Nat} (h:Below (w.alloc o).heap.size (w.alloc o) w2) (hB:B≤w.heap.size):Below B w w2:=((Below.refl _ _).alloc hB _).trans (h.mono (by simp;omega))
theorem Oh (v:Value) (ts:List (List UInt8)) (w:World) (h:Og w v ts) (hn:ts.length≤4096) :
  Calls Tryz.prog 153 #[.agg #[v]] w fun e w'=>e=.returned (.string (mkS (dF ts)))∧Below w.heap.size w w':=by
 obtain⟨Xs,hP,h1,A,cp,rfl,hcap,hs⟩:=h
 have HP:=hid hP;have HS:=hid hs;clear hP hs h1
 by_cases h0:ts=[]
 ·have HC:Hid (dF ts=[46]):=hid (by rw [dF,if_pos h0])
  have hl:ts.length=0:=by rw [h0];rfl
  have e0:((ts.length:Int)==0)=true:=by rw [hl];rfl
  clear h0 hl
  go_enter Tryz.func153,Tryz.ntmps153
  go_wp2_with fail
  go_ret
  exact⟨cZ (by rw [HC.o];rfl),(Below.refl _ _).alloc (Nat.le_refl _) _⟩
 have HC:Hid (dF ts=ts.flatMap fJ):=hid (by rw [dF,if_neg h0])
 have hl:ts.length≠0:=fun e=>h0 (List.eq_nil_of_length_eq_zero e)
 have e0:((ts.length:Int)==0)=false:=by rw [beq_eq_false_iff_ne];omega
 clear h0;obtain⟨b,off,rfl,hc⟩:=HS.o.resolve_left hl;have oF:=hid hc;clear hc HS
 go_enter Tryz.func153,Tryz.ntmps153
 go_wp2_with fail
 obtain⟨w1,hw1⟩:∃W,w.alloc (.cells #[.slice (some ⟨b,off,none⟩) ts.length cp] 246)=W:=⟨_,rfl⟩
 have HB1:Hid (Below w.heap.size w w1):=hid (by rw [←hw1];exact (Below.refl _ _).alloc (Nat.le_refl _) _)
 have hsz1:w.heap.size < w1.heap.size:=by rw [←hw1];simp
 rw [hw1];clear hw1
 go_loopw [3,5,13] (fun s _ i wr=>∃k:Nat,k≤ts.length∧i=.int .i64 k∧s=.string (mkS ((ts.take k).flatMap fJ))∧((ts.take k).flatMap fJ).length≤260*k∧Below w1.heap.size w1 wr) (fun _ _ i _=>ts.length - (intOf i).toNat)
 case atStart=>exact⟨0,Nat.zero_le _,rfl,rfl,Nat.zero_le _,Below.refl _ _⟩
 case round =>
 obtain⟨k,hk,rfl,rfl,hlen,hb⟩:=hrel
 have HB:=hid hb;clear hb
 by_cases hlt:k < ts.length
 ·have hX:k < Xs.length:=by rw [HP.o.1];exact hlt
  have HH:Hid (dO Xs[k] (cO ts[k])):=hid (HP.o.2 k _ _ (List.getElem?_eq_getElem hX) (List.getElem?_eq_getElem hlt))
  obtain⟨X,ZU⟩:∃X,Xs[k]=X:=⟨_,rfl⟩
  have hcell:∀j,j < 4→wr.cell? ⟨b,off+(k*4+j),none⟩=some (.int .u64 ((X j:Nat):Int)):=fun j hj=>by
   have h2:=oF.o (k*4+j) _ (RD Xs k hX j hj)
   rw [ZU] at h2
   exact (HB.o.cell (Nat.lt_of_lt_of_le (block_lt_of_cell? w _ h2) (Nat.le_of_lt hsz1))).trans ((HB1.o.cell (block_lt_of_cell? w _ h2)).trans h2)
  have c0:wr.cell? ⟨b,off+k*4,none⟩=some (.int .u64 ((X 0:Nat):Int)):=hcell 0 (by omega)
  have c1:wr.cell? ⟨b,off+k*4+1,none⟩=some (.int .u64 ((X 1:Nat):Int)):=hcell 1 (by omega)
  have c2:wr.cell? ⟨b,off+k*4+2,none⟩=some (.int .u64 ((X 2:Nat):Int)):=hcell 2 (by omega)
  have c3:wr.cell? ⟨b,off+k*4+3,none⟩=some (.int .u64 ((X 3:Nat):Int)):=hcell 3 (by omega)
  rw [ZU] at HH;have HST:=hid (zY ts k hlt);obtain⟨s1,hs1⟩:∃y,(ts.take k).flatMap fJ=y:=⟨_,rfl⟩;obtain⟨s2,hs2⟩:∃y,nH (cO ts[k])=y:=⟨_,rfl⟩
  have hl2:s2.length≤260:=by rw [←hs2];exact z_ _
  have HF:Hid (∀W,Calls Tryz.prog 188 #[.agg #[.int .u64 (X 0:Nat),.int .u64 (X 1:Nat),.int .u64 (X 2:Nat),.int .u64 (X 3:Nat)]] W fun e w'=>e=.returned (.string (mkS s2))∧Below W.heap.size W w'):=hid (fun W=>by
   have:=Oe X _ W HH.o
   rwa [hs2] at this)
  rw [hs1,hs2] at HST;rw [hs1] at hlen ⊢
  have hz1:(mkS s1).size≤260*k:=by rw [aG];exact hlen
  have hz2:(mkS s2).size≤260:=by rw [aG];exact hl2
  clear hcell ZU hs2 hs1
  go_wp2_with (go_at_call 188;refine (HF.o _).mono ?_;rintro e w2 ⟨rfl,hb2⟩;have HB2:=hid (HB.o.trans (CF hb2 HB.o.size));clear hb2)
  go_roundw
  case rel=>exact⟨k+1,by omega,by go_num,by rw [HST.o,←dD],by rw [HST.o];simp;omega,HB2.o⟩
  case measure=>simp [intOf];omega
 obtain rfl:k=ts.length:=by omega
 have HT:Hid ((ts.take ts.length).flatMap fJ=ts.flatMap fJ):=hid (by rw [List.take_length])
 go_wp2_with fail
 go_ret
 exact⟨cZ (by rw [HC.o,HT.o]),HB1.o.trans (HB.o.mono (Nat.le_of_lt hsz1))⟩
def ET (R:Except Int Rl) (line:Int) (w:World) (e:Ending) (w':World):Prop :=
 Below w.heap.size w w'∧match R with
  | .ok r=>∃nv,e=.returned (.agg #[.int .i64 r.kind,.int .u16 r.flag,.bool r.cross,.string r.strip,.string r.add,.string r.cond,nv])∧FN w.heap.size w' nv r.next
  | .error c=>e=.panicked [F5 line c]
def yU:Array Value:=#[.int .i64 0,.int .u16 0,.bool false,.string ⟨#[]⟩,.string ⟨#[]⟩,.string ⟨#[]⟩,.slice none 0 0]
def EU (c:Cl) (strip add cond:ByteArray) (nv:Value):Array Value:=#[.int .i64 c.kind,.int .u16 c.flag,.bool c.cross,.string strip,.string add,.string cond,nv]
structure XS (w:World) (c:Cl) (strip add cond:ByteArray) (nv:Value) (W:World):Prop where
 below:Below w.heap.size w W
 box:W.heap[w.heap.size]?=some (.cells #[.int .u16 c.flag,.int .i64 c.kind,.bool c.cross,.int .i64 c.first,.int .i64 c.count] 99 (0,0))
 res:W.heap[w.heap.size+1]?=some (.cells yU 31 (0,0))
 x:W.heap[w.heap.size+2]?=some (.cells (EU c strip add cond nv) 31 (0,0))
theorem XS.later {w W W':World} {c:Cl} {strip add cond:ByteArray} {nv:Value} (h:XS w c strip add cond nv W) (hb:Below W.heap.size W W'):XS w c strip add cond nv W' :=
 ⟨h.below.trans (hb.mono h.below.size),(hb.block _ (block_lt h.box)).trans h.box,(hb.block _ (block_lt h.res)).trans h.res,(hb.block _ (block_lt h.x)).trans h.x⟩
theorem XS.size {w W:World} {c:Cl} {strip add cond:ByteArray} {nv:Value} (h:XS w c strip add cond nv W):w.heap.size+2 < W.heap.size:=block_lt h.x
theorem XS.cells {w W:World} {c:Cl} {strip add cond:ByteArray} {nv:Value} (h:XS w c strip add cond nv W) :
  W.cell? ⟨w.heap.size,0,none⟩=some (.int .u16 c.flag)∧W.cell? ⟨w.heap.size,1,none⟩=some (.int .i64 c.kind)∧W.cell? ⟨w.heap.size,2,none⟩=some (.bool c.cross) :=
 ⟨by rw [cell_of_heap h.box];rfl,by rw [cell_of_heap h.box];rfl,by rw [cell_of_heap h.box];rfl⟩
theorem XS.XZ {w W:World} {c:Cl} {strip add cond:ByteArray} {nv:Value} (h:XS w c strip add cond nv W) (j:Nat) (hj:j < 7):∃u,W.cell? ⟨w.heap.size+2,j,none⟩=some u∧W.frozen? ⟨w.heap.size+2,j,none⟩=false:=by
 refine⟨(EU c strip add cond nv)[j]'hj,?_,frozen_of_heap h.x j⟩
 rw [cell_of_heap h.x]
 exact Array.getElem?_eq_getElem hj
theorem XS.xE {w W:World} {c:Cl} {strip add cond s:ByteArray} {nv:Value} (h:XS w c strip add cond nv W):XS w c s add cond nv (W.setCell ⟨w.heap.size+2,3,none⟩ (.string s)) :=
 ⟨h.below.setCell (by simp) _,(f_ _ _ _ _).at h.box (by simp),(f_ _ _ _ _).at h.res (by simp),heap_setCell_same _ _ _ _ _ _ h.x⟩
theorem XS.FT {w W:World} {c:Cl} {strip add cond s:ByteArray} {nv:Value} (h:XS w c strip add cond nv W):XS w c strip s cond nv (W.setCell ⟨w.heap.size+2,4,none⟩ (.string s)) :=
 ⟨h.below.setCell (by simp) _,(f_ _ _ _ _).at h.box (by simp),(f_ _ _ _ _).at h.res (by simp),heap_setCell_same _ _ _ _ _ _ h.x⟩
theorem XS.sO {w W:World} {c:Cl} {strip add cond s:ByteArray} {nv:Value} (h:XS w c strip add cond nv W):XS w c strip add s nv (W.setCell ⟨w.heap.size+2,5,none⟩ (.string s)) :=
 ⟨h.below.setCell (by simp) _,(f_ _ _ _ _).at h.box (by simp),(f_ _ _ _ _).at h.res (by simp),heap_setCell_same _ _ _ _ _ _ h.x⟩
theorem XS.wG {w W:World} {c:Cl} {strip add cond:ByteArray} {nv v:Value} (h:XS w c strip add cond nv W):XS w c strip add cond v (W.setCell ⟨w.heap.size+2,6,none⟩ v) :=
 ⟨h.below.setCell (by simp) _,(f_ _ _ _ _).at h.box (by simp),(f_ _ _ _ _).at h.res (by simp),heap_setCell_same _ _ _ _ _ _ h.x⟩
theorem Oi {F:Fl} {c:Cl} {line:Int} {row:List ByteArray} (h:row.length≠4∧row.length≠5):bK F c line row=.error 111:=by rw [bK,if_pos h]
theorem xG {F:Fl} {c:Cl} {line e:Int} {row:List ByteArray} (h:¬(row.length≠4∧row.length≠5)) (h2:bL true (fieldAt row 2)=.error e):bK F c line row=.error e:=by rw [bK,if_neg h,h2]
def Ab (F:Fl) (c:Cl) (line:Int) (row:List ByteArray) (strip:ByteArray):Except Int Rl:=match eB (fieldAt row 3).data.toList with
 | (w,rest,cut,e)=>if e≠0 then .error e else match o8 w with
   | .error e=>.error e
   | .ok add=>match nextR F c.kind rest cut with
     | .error e=>.error e
     | .ok next=>match je row with
       | .error e=>.error e
       | .ok cond=>.ok ⟨c.kind,c.flag,c.cross,strip,add,cond,next,line⟩
theorem Io {F:Fl} {c:Cl} {line:Int} {row:List ByteArray} {s:ByteArray} (h:¬(row.length≠4∧row.length≠5)) (h2:bL true (fieldAt row 2)=.ok s):bK F c line row=Ab F c line row s:=by rw [bK,if_neg h,h2];rfl
def Q7 (F:Fl) (c:Cl) (line:Int) (row:List ByteArray) (strip add:ByteArray) (rest:List UInt8) (cut:Bool):Except Int Rl:=match nextR F c.kind rest cut with
 | .error e=>.error e
 | .ok next=>match je row with
   | .error e=>.error e
   | .ok cond=>.ok ⟨c.kind,c.flag,c.cross,strip,add,cond,next,line⟩
def qX (c:Cl) (line:Int) (row:List ByteArray) (strip add:ByteArray) (next:List Int):Except Int Rl:=match je row with
 | .error e=>.error e
 | .ok cond=>.ok ⟨c.kind,c.flag,c.cross,strip,add,cond,next,line⟩
end Go.Proofs.YtfkblpjfknfgbaaGreatDoor
