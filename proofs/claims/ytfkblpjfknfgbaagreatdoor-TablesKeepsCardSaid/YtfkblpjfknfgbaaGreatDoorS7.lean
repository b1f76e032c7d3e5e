/-
 Parts of the proof: AC4, AC5, AC6, AC7, AC8, AF13.
-/
import Derived.Test.YtfkblpjfknfgbaaGreatDoorRows
import Derived.Test.YtfkblpjfknfgbaaGreatDoorS6
import Derived.Test.YtfkblpjfknfgbaaGreatDoorS4
import Derived.Test.YtfkblpjfknfgbaaGreatDoorS1
import Derived.ArgAppend
import Derived.Lib.SliceRun
import Derived.Deep.RegionLaw
set_option linter.unusedVariables false
set_option linter.unusedSimpArgs false
set_option maxHeartbeats 8000000
set_option maxRecDepth 100000
open Go.Maps Go.RowKit
open Go.Lib (hid cell_of_heap frozen_of_heap byteCells)
open Go.World (block_lt_of_cell?)
namespace Go.Proofs.YtfkblpjfknfgbaaGreatDoor
theorem items_fuel:∀(n:Nat) (l:List UInt8),l.length≤n→itemsGo n l=itemsGo l.length l
 | 0,l,h=>by rw [List.eq_nil_of_length_eq_zero (Nat.le_zero.1 h)];rfl
 | n+1,[],_=>by simp [itemsGo]
 | n+1,b::l,h=>by
   have hl:l.length≤n:=by simpa using h
   rw [List.length_cons,itemsGo,itemsGo,items_fuel n l hl]
   by_cases hb:b.toNat=91
   ·rw [if_pos hb,if_pos hb]
    cases List.findIdx? (fun c=>c.toNat==93) l with
    | none=>rfl
    | some k =>
     dsimp only
     rw [items_fuel n (l.drop (k+1)) (by rw [List.length_drop];omega),items_fuel l.length (l.drop (k+1)) (by rw [List.length_drop];omega)]
   ·rw [if_neg hb,if_neg hb]
def itemsF (l:List UInt8):Except Int (List (List UInt8)):=itemsGo l.length l
def aheadI (ts:List (List UInt8)):Except Int (List (List UInt8))→Except Int (List (List UInt8))
 | .error c=>.error c
 | .ok us=>.ok (ts++us)
theorem itemsF_nil:itemsF []=.ok []:=rfl
theorem itemsF_none (b:UInt8) (l:List UInt8) (hb:b.toNat=91) (hc:close? l=none):itemsF (b::l)=.error 41:=by
 unfold close? at hc
 rw [itemsF,List.length_cons,itemsGo,if_pos hb,hc]
theorem itemsF_bad (b:UInt8) (l:List UInt8) (n:Nat) (hb:b.toNat=91) (hc:close? l=some n) (h:badItem l n):itemsF (b::l)=.error 41:=by
 unfold close? at hc
 unfold badItem at h
 rw [itemsF,List.length_cons,itemsGo,if_pos hb,hc]
 dsimp only
 rw [if_pos h]
theorem itemsF_item (b:UInt8) (l:List UInt8) (n:Nat) (hb:b.toNat=91) (hc:close? l=some n) (h:¬badItem l n):itemsF (b::l)=aheadI [b::l.take (n+1)] (itemsF (l.drop (n+1))):=by
 unfold close? at hc
 unfold badItem at h
 rw [itemsF,List.length_cons,itemsGo,if_pos hb,hc]
 dsimp only
 rw [if_neg h,items_fuel l.length (l.drop (n+1)) (by rw [List.length_drop];omega)]
 unfold itemsF aheadI
 cases itemsGo (l.drop (n+1)).length (l.drop (n+1))<;>rfl
theorem itemsF_one (b:UInt8) (l:List UInt8) (hb:b.toNat≠91):itemsF (b::l)=aheadI [[b]] (itemsF l):=by
 rw [itemsF,List.length_cons,itemsGo,if_neg hb]
 unfold itemsF aheadI
 cases itemsGo l.length l<;>rfl
theorem aheadI_app (ts:List (List UInt8)) (t:List UInt8) (r:Except Int (List (List UInt8))):aheadI ts (aheadI [t] r)=aheadI (ts++[t]) r:=by
 cases r<;>simp [aheadI]
def CSt (l:List UInt8) (k:Nat) (ts:List (List UInt8)):Prop:=aheadI ts (itemsF (l.drop k))=itemsF l∧ts.length≤k
def PatW (Xs:List Ws) (ts:List (List UInt8)):Prop:=Xs.length=ts.length∧∀(j:Nat) X t,Xs[j]?=some X→ts[j]?=some t→HasP X (admB t)
theorem PatW.snoc {Xs:List Ws} {ts:List (List UInt8)} {X:Ws} {t:List UInt8} (h:PatW Xs ts) (hx:HasP X (admB t)):PatW (Xs++[X]) (ts++[t]):=by
 refine⟨by simp [h.1],fun j Y u hY hu=>?_⟩
 by_cases hj:j < Xs.length
 ·rw [List.getElem?_append_left hj] at hY
  rw [List.getElem?_append_left (by rw [←h.1];exact hj)] at hu
  exact h.2 j Y u hY hu
 rw [List.getElem?_append_right (by omega)] at hY
 rw [List.getElem?_append_right (by rw [←h.1];omega)] at hu
 rw [←h.1] at hu
 rcases hd:j - Xs.length with _ | d
 ·rw [hd] at hY hu;simp at hY hu;subst hY hu;exact hx
 rw [hd] at hY;simp at hY
def wsCells (Xs:List Ws):List Value:=Xs.flatMap fun X=>[.int .u64 (X 0:Nat),.int .u64 (X 1:Nat),.int .u64 (X 2:Nat),.int .u64 (X 3:Nat)]
theorem wsCells_snoc (Xs:List Ws) (X:Ws):wsCells Xs++[Value.int .u64 (X 0:Nat),.int .u64 (X 1:Nat),.int .u64 (X 2:Nat),.int .u64 (X 3:Nat)]=wsCells (Xs++[X]):=by simp [wsCells]
theorem adm_one (c:UInt8) (hc:c.toNat≠46) (b:UInt8):(false||c==b)=admB [c] b:=by
 have:(c.toNat==46)=false:=by rw [beq_eq_false_iff_ne];exact hc
 simp [admB,this]
theorem adm_dot (c:UInt8) (hc:c.toNat=46) (b:UInt8):(!false)=admB [c] b:=by simp [admB,hc]
def CondP (l:List UInt8) (w:World) (e:Ending) (w':World):Prop :=
 Below w.heap.size w w'∧match condR l with
  | .error c=>e=.returned (.tuple #[.agg #[.slice none 0 0],.int .i64 c])
  | .ok ts=>∃v n Xs,e=.returned (.tuple #[.agg #[v],.int .i64 0])∧n=ts.length∧PatW Xs ts∧w'.ownsRow w.heap.size 273 4 v n (wsCells Xs)
theorem class_info:(Tryz.prog.info? 273).map (fun i=>(i.zero,i.size,i.bytes))=some (some (.agg #[.int .u64 0,.int .u64 0,.int .u64 0,.int .u64 0]),4,32):=by kernel_rfl
structure CMem (w wr:World) (v:Value) (Xs:List Ws):Prop where
 below:Below w.heap.size w wr
 ans:wr.heap[w.heap.size]?=some (.cells #[.slice none 0 0] 246 (0,0))
 pat:wr.heap[w.heap.size+1]?=some (.cells #[v] 246 (0,0))
 row:wr.ownsRow w.heap.size 273 4 v Xs.length (wsCells Xs)
theorem CMem.later {w wr w':World} {v:Value} {Xs:List Ws} (h:CMem w wr v Xs) (hb:Below wr.heap.size wr w'):CMem w w' v Xs :=
 ⟨h.below.trans (hb.mono h.below.size),(hb.block _ (block_lt h.ans)).trans h.ans,(hb.block _ (block_lt h.pat)).trans h.pat,own_below h.row hb⟩
theorem CMem.push {w wr w1:World} {v v':Value} {Xs:List Ws} {X:Ws} (h:CMem w wr v Xs) (hown:w1.ownsRow w.heap.size 273 4 v' (Xs.length+1) (wsCells Xs++[.int .u64 (X 0:Nat),.int .u64 (X 1:Nat),.int .u64 (X 2:Nat),.int .u64 (X 3:Nat)])) (hg:wr.grownBy w1 v.ownBlock) :
  CMem w (w1.setCell ⟨w.heap.size+1,0,none⟩ v') v' (Xs++[X]):=by
 have hne:∀b cur fr,wr.heap[b]?=some (.cells cur 246 fr)→some b≠v.ownBlock:=by
  intro b cur fr hb e
  rcases h.row.2 with ⟨rfl,_⟩ | ⟨g,cap,c2,rfl,_,hgb,_⟩
  ·simp [Value.ownBlock] at e
  have:b=g:=by simpa [Value.ownBlock] using e
  subst this
  rw [hb] at hgb;cases hgb
 have h1:=(hg.block _ (block_lt h.ans) (hne _ _ _ h.ans)).trans h.ans
 have h2:=(hg.block _ (block_lt h.pat) (hne _ _ _ h.pat)).trans h.pat
 have hv:∀g,v'.ownBlock=some g→g≠w.heap.size+1:=by
  intro g hgv e
  subst e
  rcases hown.2 with ⟨rfl,_⟩ | ⟨g',cap,c2,rfl,_,hgb,_⟩
  ·simp [Value.ownBlock] at hgv
  have:g'=w.heap.size+1:=by simpa [Value.ownBlock] using hgv
  subst this
  rw [h2] at hgb;cases hgb
 refine⟨(h.below.grown hg h.below.size (fun k hk=>(h.row.lt k hk).1)).setCell (by simp) _,?_,?_,?_⟩
 ·rw [Go.heap_setCell_other _ ⟨w.heap.size+1,0,none⟩ w.heap.size _ (by simp)];exact h1
 ·exact heap_setCell_same w1 _ 0 #[v] _ v' h2
 have:=((Kept.refl [w.heap.size+1] w1).set (w.heap.size+1) 0 v' (.inl (by simp))).own hown (fun g hgv=>by simpa using hv g hgv)
 rw [wsCells_snoc] at this
 simpa using this
theorem wpList_push_at {P:Program} {ops:Array Oper} {rest:List Oper} {o:Oper} {a:Act} {Q:Exit→Act→World→Prop} {w:World} (hgd:o.guard=none) (s x:Operand) (t:TypeId)
  (ho:o.op=.call { callee:=.builtin .append,args:=#[s,x],argTypes:=#[t,t] })
  (base:Nat) (e:TypeId) (i:TypeInfo) (z:Value) (size bytes:Nat) (ht:P.underlying t=some (.slice e)) (hi:P.info? e=some i) (hz:i.zero=some z)
  (hsize:i.size=size) (hby:i.bytes=bytes) (hzs:z.cells.size=size) (hsz:0 < size)
  (v:Value) (n:Nat) (xs:List Value) (hs:a.eval s=v) (hown:w.ownsRow base e size v n xs)
  (us:Array Value) (hus:us.size=size) (h1:∀u∈us.toList,u.oneCell'=true) (b:Nat) (hx:a.eval x=.slice (some ⟨b,0,none⟩) 1 1) (hb:b=w.heap.size)
  (h63:n+1≤maxLen) (hbytes:(n+1)*bytes≤140737488355328) (hbase:base≤w.heap.size)
  (h:∀g cap w',w'.ownsRow base e size (.slice (some ⟨g,0,none⟩) (n+1) cap) (n+1) (xs++us.toList)→w.grownBy w' v.ownBlock →
   wpList P ops Q rest (a.put o.dst (.slice (some ⟨g,0,none⟩) (n+1) cap)) w'):wpList P ops Q (o::rest) a (w.alloc (.cells us e)):=by
 subst hb
 exact wpList_push hgd s x t ho base e i z size bytes ht hi hz hsize hby hzs hsz v n xs hs hown us hus h1 hx h63 hbytes hbase h
theorem own_sl {w:World} {B e size n:Nat} {v:Value} {xs:List Value} (h:w.ownsRow B e size v n xs):∃A cap,v=.slice A n cap:=by
 rcases h.2 with ⟨rfl,rfl⟩ | ⟨g,cap,cur,rfl,_⟩
 ·exact⟨_,_,rfl⟩
 exact⟨_,_,rfl⟩
theorem CMem.overNew {w wr w2:World} {v:Value} {Xs:List Ws} {o:Obj} (h:CMem w wr v Xs) (hk:Kept [wr.heap.size] (wr.alloc o) w2):CMem w w2 v Xs:=by
 have ha:=h.later ((Below.refl _ wr).alloc (Nat.le_refl _) o)
 have hw:w.heap.size≤wr.heap.size:=h.below.size
 refine⟨ha.below.trans (hk.below (by simp;omega) (fun x hx=>by simp at hx;omega)),hk.at ha.ans (by simp;exact Nat.ne_of_lt (block_lt h.ans)),hk.at ha.pat (by simp;exact Nat.ne_of_lt (block_lt h.pat)),hk.own ha.row (fun g hg hm=>?_)⟩
 simp at hm
 subst hm
 have:=(h.row.lt _ hg).2
 omega
theorem CMem.ans_cell {w wr:World} {v:Value} {Xs:List Ws} (h:CMem w wr v Xs):wr.cell? ⟨w.heap.size,0,none⟩=some (.slice none 0 0)∧wr.frozen? ⟨w.heap.size,0,none⟩=false:=⟨by rw [cell_of_heap h.ans];rfl,frozen_of_heap h.ans 0⟩
theorem CMem.row_ans {w wr:World} {v:Value} {Xs:List Ws} (h:CMem w wr v Xs) (u:Value):(wr.setCell ⟨w.heap.size,0,none⟩ u).ownsRow w.heap.size 273 4 v Xs.length (wsCells Xs):=by
 refine ((Kept.refl [w.heap.size] wr).set w.heap.size 0 u (.inl (by simp))).own h.row (fun g hg hm=>?_)
 simp at hm
 subst hm
 rcases h.row.2 with ⟨rfl,_⟩ | ⟨g',cap,c2,rfl,_,hgb,_⟩
 ·simp [Value.ownBlock] at hg
 have:g'=w.heap.size:=by simpa [Value.ownBlock] using hg
 subst this
 have:=h.ans;rw [hgb] at this;cases this
theorem CMem.pat_cell {w wr:World} {v:Value} {Xs:List Ws} (h:CMem w wr v Xs):wr.cell? ⟨w.heap.size+1,0,none⟩=some v:=by rw [cell_of_heap h.pat];rfl
theorem CMem.pat_grown {w wr w1:World} {v:Value} {Xs:List Ws} (h:CMem w wr v Xs) (hg:wr.grownBy w1 v.ownBlock):w1.cell? ⟨w.heap.size+1,0,none⟩=some v∧w1.frozen? ⟨w.heap.size+1,0,none⟩=false:=by
 have h2:w1.heap[w.heap.size+1]?=some (.cells #[v] 246 (0,0)):=(hg.block _ (block_lt h.pat) (fun e=>by
  rcases h.row.2 with ⟨rfl,_⟩ | ⟨g,cap,c2,rfl,_,hgb,_⟩
  ·simp [Value.ownBlock] at e
  have:w.heap.size+1=g:=by simpa [Value.ownBlock] using e
  subst this
  have:=h.pat;rw [hgb] at this;cases this)).trans h.pat
 exact⟨by rw [cell_of_heap h2];rfl,frozen_of_heap h2 0⟩
theorem condR_eq (s:ByteArray) (h0:s.size≠0) (h1:s.size≤512) (h2:s.data.toList≠[46]):condR s.data.toList=match itemsF s.data.toList with | .error c=>.error c | .ok ts=>if 16 < ts.length then .error 42 else .ok ts:=by
 have hl:=len_toList s
 unfold condR
 rw [if_neg (by omega),if_neg h2]
 rfl
theorem so_condRead (s:ByteArray) (w:World) :
  Calls Tryz.prog 152 #[.string s] w (CondP s.data.toList w):=by
 obtain⟨i0,hi,hz0,hz1,hz2⟩:=info_parts class_info
 by_cases h0:s.size=0
 ·have hse:s=⟨#[]⟩:=by apply ByteArray.ext;exact Array.eq_empty_of_size_eq_zero h0
  subst hse
  go_enter Tryz.func152,Tryz.ntmps152
  go_wp2_with fail
  refine bodyPost_ret (v:=.tuple #[.agg #[.slice none 0 0],.int .i64 40]) (by simp [results,Tryz.results152,go_sem];try rfl) rfl ?_
  exact⟨((Below.refl _ _).alloc (Nat.le_refl _) _),rfl⟩
 have hne:=notEmpty s (by omega)
 by_cases h1:s.size≤512
 ·have hgt:decide ((512:Int) < (s.size:Int))=false:=by rw [decide_eq_false_iff_not];omega
  by_cases h2:s.data.toList=[46]
  ·have hse:s=⟨#[46]⟩:=by
    obtain⟨⟨l⟩⟩:=s
    have:l=[46]:=h2
    rw [this]
   subst hse
   go_enter Tryz.func152,Tryz.ntmps152
   go_wp2_with fail
   refine bodyPost_ret (v:=.tuple #[.agg #[.slice none 0 0],.int .i64 0]) (by simp [results,Tryz.results152,go_sem];try rfl) rfl ?_
   exact⟨((Below.refl _ _).alloc (Nat.le_refl _) _),_,0,[],rfl,rfl,⟨rfl,fun j X t hX=>by simp at hX⟩,World.ownsRow_nil _ _ _ _⟩
  have hnd:(s.toList==[46])=false:=by rw [beq_eq_false_iff_ne,Lib.toList_data];exact h2
  have HCR:=hid (condR_eq s h0 h1 h2)
  clear h2
  go_enter Tryz.func152,Tryz.ntmps152
  go_wp2_with fail
  go_loopw [5] (fun x wr=>∃(k:Nat) (ts:List (List UInt8)) (Xs:List Ws) (v:Value),k≤s.size∧x=.int .i64 k∧Hid (CSt s.data.toList k ts)∧Hid (PatW Xs ts)∧Hid (CMem w wr v Xs)) (fun x _=>s.size - (intOf x).toNat)
  case atStart =>
   refine⟨0,[],[],.slice none 0 0,Nat.zero_le _,rfl,⟨by simp [aheadI];cases itemsF s.data.toList<;>rfl,Nat.le_refl _⟩,⟨rfl,fun j X t hX=>by simp at hX⟩,⟨((Below.refl _ _).alloc (Nat.le_refl _) _).alloc (by simp) _,?_,?_,World.ownsRow_nil _ _ _ _⟩⟩
   ·exact (Below.heap_alloc _ _ w.heap.size (by simp)).trans (heap_alloc_new w _)
   have:=heap_alloc_new (w.alloc (.cells #[.slice none 0 0] 246)) (.cells #[.slice none 0 0] 246)
   rw [World.size_alloc] at this
   exact this
  case round =>
  obtain⟨k,ts,Xs,v,hk,rfl,HS,HP,HC⟩:=hrel
  obtain⟨VA,vc,rfl⟩:=own_sl HC.out.row
  by_cases hlt:k < s.size
  ·have hdr:=drop_cons s k hlt
   by_cases hb:s[k].toNat=91
   ·have e1:((s[k].toNat:Int)==91)=true:=by rw [hb];rfl
    have hb91:s[k]=91:=by rw [←UInt8.toNat_inj];exact hb
    have HBr:Hid (∀W,Calls Tryz.prog 185 #[.string s,.int .i64 ((k:Int)+1)] W (BrP (s.data.toList.drop (k+1)) (k+1) W)):=hid (fun W=>so_bracket s (k+1) W (by omega) (by omega))
    have HLx:Hid (Xs.length≤k):=hid (by have h3:=HS.out.2;have h4:=HP.out.1;omega)
    have HA0:=hid (show aheadI ts (itemsF (s[k]::s.data.toList.drop (k+1)))=itemsF s.data.toList by rw [←hdr];exact HS.out.1)
    clear hdr
    unfold BrP at HBr
    have hpn:w.heap.size+1 < wr.heap.size:=block_lt HC.out.pat
    have ne1:¬wr.heap.size=w.heap.size+1:=by omega
    have ne2:¬w.heap.size+1=wr.heap.size:=by omega
    have ne3:¬wr.heap.size=w.heap.size:=by omega
    have ne4:¬w.heap.size=wr.heap.size:=by omega
    cases hc:close? (s.data.toList.drop (k+1)) with
    | none =>
     have HRe:Hid (condR s.data.toList=.error 41):=hid (by rw [HCR.out,←HA0.out,itemsF_none _ _ hb hc];rfl)
     simp only [hc] at HBr
     clear hc hb hb91
     go_wp2_with (first
      | (go_at_call 185;refine (HBr.out _).mono ?_;rintro e w2 ⟨hb2,Y,i',rfl⟩;have HCx:=hid (HC.out.overNew (((((Kept.of_below hb2).set wr.heap.size 0 (.int .u64 (Y 0:Nat)) (.inl (by simp))).set wr.heap.size 1 (.int .u64 (Y 1:Nat)) (.inl (by simp))).set wr.heap.size 2 (.int .u64 (Y 2:Nat)) (.inl (by simp))).set wr.heap.size 3 (.int .u64 (Y 3:Nat)) (.inl (by simp))));obtain⟨hz2,-⟩:=zero_cells (X:=fun _=>0) hb2;obtain⟨a0,a1,a2,a3⟩:=ws_cells hz2;have zz0:=frozen_of_heap hz2 0;have zz1:=frozen_of_heap hz2 1;have zz2:=frozen_of_heap hz2 2;have zz3:=frozen_of_heap hz2 3;have q0:=(HC.out.overNew (Kept.of_below hb2)).ans_cell.1;have qz:=(HC.out.overNew (Kept.of_below hb2)).ans_cell.2;clear hb2 hz2))
     refine bodyPost_ret (v:=.tuple #[.agg #[.slice none 0 0],.int .i64 41]) (by simp [results,Tryz.results152,go_sem,q0,ne1,ne2,ne3,ne4]) rfl ?_
     rw [CondP,HRe.out]
     exact⟨HCx.out.below.setCell (Nat.le_refl _) _,rfl⟩
    | some n =>
     simp only [hc] at HBr
     by_cases hbi:badItem (s.data.toList.drop (k+1)) n
     ·have HRe:Hid (condR s.data.toList=.error 41):=hid (by rw [HCR.out,←HA0.out,itemsF_bad _ _ n hb hc hbi];rfl)
      simp only [if_pos hbi] at HBr
      clear hc hb hb91 hbi
      go_wp2_with (first
       | (go_at_call 185;refine (HBr.out _).mono ?_;rintro e w2 ⟨hb2,Y,i',rfl⟩;have HCx:=hid (HC.out.overNew (((((Kept.of_below hb2).set wr.heap.size 0 (.int .u64 (Y 0:Nat)) (.inl (by simp))).set wr.heap.size 1 (.int .u64 (Y 1:Nat)) (.inl (by simp))).set wr.heap.size 2 (.int .u64 (Y 2:Nat)) (.inl (by simp))).set wr.heap.size 3 (.int .u64 (Y 3:Nat)) (.inl (by simp))));obtain⟨hz2,-⟩:=zero_cells (X:=fun _=>0) hb2;obtain⟨a0,a1,a2,a3⟩:=ws_cells hz2;have zz0:=frozen_of_heap hz2 0;have zz1:=frozen_of_heap hz2 1;have zz2:=frozen_of_heap hz2 2;have zz3:=frozen_of_heap hz2 3;have q0:=(HC.out.overNew (Kept.of_below hb2)).ans_cell.1;have qz:=(HC.out.overNew (Kept.of_below hb2)).ans_cell.2;clear hb2 hz2))
      refine bodyPost_ret (v:=.tuple #[.agg #[.slice none 0 0],.int .i64 41]) (by simp [results,Tryz.results152,go_sem,q0,ne1,ne2,ne3,ne4]) rfl ?_
      rw [CondP,HRe.out]
      exact⟨HCx.out.below.setCell (Nat.le_refl _) _,rfl⟩
     have hlt2:=close_lt hc
     rw [List.length_drop,len_toList] at hlt2
     have HS2:Hid (CSt s.data.toList (k+1+n+1) (ts++[s[k]::(s.data.toList.drop (k+1)).take (n+1)])):=hid ⟨by
      have h3:=HA0.out
      rw [itemsF_item _ _ n hb hc hbi,aheadI_app,List.drop_drop] at h3
      exact h3,by have:=HS.out.2;simp;omega⟩
     simp only [if_neg hbi] at HBr
     rw [hb91] at HS2
     clear hc hb hb91 hbi
     go_wp2_with (first
      | (go_at_call 185;refine (HBr.out _).mono ?_;rintro e w2 ⟨hb2,Y,rfl,hY⟩;have HY:=hid hY;have HCx:=hid (HC.out.overNew (((((Kept.of_below hb2).set wr.heap.size 0 (.int .u64 (Y 0:Nat)) (.inl (by simp))).set wr.heap.size 1 (.int .u64 (Y 1:Nat)) (.inl (by simp))).set wr.heap.size 2 (.int .u64 (Y 2:Nat)) (.inl (by simp))).set wr.heap.size 3 (.int .u64 (Y 3:Nat)) (.inl (by simp))));obtain⟨hz2,-⟩:=zero_cells (X:=fun _=>0) hb2;obtain⟨a0,a1,a2,a3⟩:=ws_cells hz2;have zz0:=frozen_of_heap hz2 0;have zz1:=frozen_of_heap hz2 1;have zz2:=frozen_of_heap hz2 2;have zz3:=frozen_of_heap hz2 3;have p0:=(HC.out.overNew (Kept.of_below hb2)).pat_cell;clear hb2 hY hz2)
      | (at_builtin;refine wpList_push_at rfl _ _ 244 rfl w.heap.size 273 i0 (.agg #[.int .u64 0,.int .u64 0,.int .u64 0,.int .u64 0]) 4 32 Tryz.underlying244 hi hz0 hz1 hz2 rfl (by decide) (.slice VA Xs.length vc) Xs.length (wsCells Xs) rfl HCx.out.row #[.int .u64 (Y 0:Nat),.int .u64 (Y 1:Nat),.int .u64 (Y 2:Nat),.int .u64 (Y 3:Nat)] rfl (by intro x hx;simp at hx;rcases hx with rfl | rfl | rfl | rfl<;>rfl) _ rfl (by simp [World.setCell]) (by have:=HLx.out;unfold maxLen;omega) (by have:=HLx.out;omega) HCx.out.below.size ?_;intro g' cap' w9 hown hg;have HCy:=hid (HCx.out.push hown hg);have hpat9:=HCx.out.pat_grown hg;have c9:=hpat9.1;have z9:=hpat9.2;clear hown hg hpat9))
     go_roundw
     case rel=>exact⟨k+1+n+1,_,_,_,by omega,by go_num,HS2,hid (HP.out.snoc HY.out),HCy⟩
     case measure=>simp [intOf];omega
   have e1:((s[k].toNat:Int)==91)=false:=by rw [beq_eq_false_iff_ne];omega
   have HS2:Hid (CSt s.data.toList (k+1) (ts++[[s[k]]])):=hid ⟨by rw [←HS.out.1,hdr,itemsF_one _ _ hb,aheadI_app],by have:=HS.out.2;simp;omega⟩
   clear hdr hb
   by_cases hd:s[k].toNat=46
   ·have e2:((s[k].toNat:Int)==46)=true:=by rw [hd];rfl
    have HQ:=hid (adm_dot s[k] hd)
    clear hd
    have HLx:Hid (Xs.length≤k):=hid (by have h3:=HS.out.2;have h4:=HP.out.1;omega)
    have hpn:w.heap.size+1 < wr.heap.size:=block_lt HC.out.pat
    have ne1:¬wr.heap.size=w.heap.size+1:=by omega
    have ne2:¬w.heap.size+1=wr.heap.size:=by omega
    have HOt:Hid (∀W,Calls Tryz.prog 186 #[.agg #[.int .u64 0,.int .u64 0,.int .u64 0,.int .u64 0]] W fun e w'=>∃Y:Ws,e=.returned (.agg #[.int .u64 (Y 0:Nat),.int .u64 (Y 1:Nat),.int .u64 (Y 2:Nat),.int .u64 (Y 3:Nat)])∧HasP Y (fun b=>!false)∧Below W.heap.size W w'):=hid (fun W=>so_otherA (fun _=>0) (fun _=>false) W HasP.none)
    go_wp2_with (first
     | (go_at_call 186;refine (HOt.out _).mono ?_;rintro e w2 ⟨Y,rfl,hY,hb2⟩;have HY:=hid (hY.ext HQ.out);have HCx:=hid (HC.out.overNew (((((Kept.of_below hb2).set wr.heap.size 0 (.int .u64 (Y 0:Nat)) (.inl (by simp))).set wr.heap.size 1 (.int .u64 (Y 1:Nat)) (.inl (by simp))).set wr.heap.size 2 (.int .u64 (Y 2:Nat)) (.inl (by simp))).set wr.heap.size 3 (.int .u64 (Y 3:Nat)) (.inl (by simp))));obtain⟨hz2,-⟩:=zero_cells (X:=fun _=>0) hb2;obtain⟨a0,a1,a2,a3⟩:=ws_cells hz2;have zz0:=frozen_of_heap hz2 0;have zz1:=frozen_of_heap hz2 1;have zz2:=frozen_of_heap hz2 2;have zz3:=frozen_of_heap hz2 3;have p0:=(HC.out.overNew (Kept.of_below hb2)).pat_cell;clear hb2 hY hz2)
     | (at_builtin;refine wpList_push_at rfl _ _ 244 rfl w.heap.size 273 i0 (.agg #[.int .u64 0,.int .u64 0,.int .u64 0,.int .u64 0]) 4 32 Tryz.underlying244 hi hz0 hz1 hz2 rfl (by decide) (.slice VA Xs.length vc) Xs.length (wsCells Xs) rfl HCx.out.row #[.int .u64 (Y 0:Nat),.int .u64 (Y 1:Nat),.int .u64 (Y 2:Nat),.int .u64 (Y 3:Nat)] rfl (by intro x hx;simp at hx;rcases hx with rfl | rfl | rfl | rfl<;>rfl) _ rfl (by simp [World.setCell]) (by have:=HLx.out;unfold maxLen;omega) (by have:=HLx.out;omega) HCx.out.below.size ?_;intro g' cap' w9 hown hg;have HCy:=hid (HCx.out.push hown hg);have hpat9:=HCx.out.pat_grown hg;have c9:=hpat9.1;have z9:=hpat9.2;clear hown hg hpat9))
    go_roundw
    case rel=>exact⟨k+1,_,_,_,by omega,by go_num,HS2,hid (HP.out.snoc HY.out),HCy⟩
    case measure=>simp [intOf];omega
   have e2:((s[k].toNat:Int)==46)=false:=by rw [beq_eq_false_iff_ne];omega
   have HQ:=hid (adm_one s[k] hd)
   clear hd
   have HLx:Hid (Xs.length≤k):=hid (by have h3:=HS.out.2;have h4:=HP.out.1;omega)
   have HPut:=hid (so_put (fun _=>0) wr.heap.size s[k] (wr.alloc (.cells (wsA (fun _=>0)) 273)) (by decide) (heap_alloc_new wr _))
   go_wp2_with (first
    | (go_at_call 187;refine HPut.out.mono ?_;rintro e w2 ⟨rfl,h1,h2⟩;obtain⟨Y,hY⟩:∃Y,put4 (fun _=>0) s[k].toNat=Y:=⟨_,rfl⟩;have HY:Hid (HasP Y (admB [s[k]])):=hid (by rw [←hY];exact (HasP.none.put s[k]).ext HQ.out);rw [hY] at h1;have HCx:=hid (HC.out.overNew h2);obtain⟨b0,b1,b2,b3⟩:=ws_cells h1;have p0:=HCx.out.pat_cell;clear h1 h2 hY)
    | (at_builtin;refine wpList_push_at rfl _ _ 244 rfl w.heap.size 273 i0 (.agg #[.int .u64 0,.int .u64 0,.int .u64 0,.int .u64 0]) 4 32 Tryz.underlying244 hi hz0 hz1 hz2 rfl (by decide) (.slice VA Xs.length vc) Xs.length (wsCells Xs) rfl HCx.out.row #[.int .u64 (Y 0:Nat),.int .u64 (Y 1:Nat),.int .u64 (Y 2:Nat),.int .u64 (Y 3:Nat)] rfl (by intro x hx;simp at hx;rcases hx with rfl | rfl | rfl | rfl<;>rfl) _ rfl (by simp [World.setCell]) (by have:=HLx.out;unfold maxLen;omega) (by have:=HLx.out;omega) HCx.out.below.size ?_;intro g' cap' w9 hown hg;have HCy:=hid (HCx.out.push hown hg);have hpat9:=HCx.out.pat_grown hg;have c9:=hpat9.1;have z9:=hpat9.2;clear hown hg hpat9))
   go_roundw
   case rel=>exact⟨k+1,_,_,_,by omega,by go_num,HS2,hid (HP.out.snoc HY.out),HCy⟩
   case measure=>simp [intOf];omega
  obtain rfl:k=s.size:=by omega
  have hit:itemsF s.data.toList=.ok ts:=by rw [←HS.out.1,drop_all,itemsF_nil];simp [aheadI]
  have hcr:=HCR.out
  rw [hit] at hcr
  dsimp only at hcr
  have hxl:=HP.out.1
  have p0:=HC.out.pat_cell
  obtain⟨q0,qz⟩:=HC.out.ans_cell
  have ne1:¬w.heap.size=w.heap.size+1:=by omega
  by_cases h16:16 < ts.length
  ·rw [if_pos h16] at hcr
   have HRe:=hid hcr
   have hgt16:decide ((16:Int) < (Xs.length:Int))=true:=by rw [decide_eq_true_iff];omega
   clear hcr hit hxl h16
   go_wp2_with fail
   refine bodyPost_ret (v:=.tuple #[.agg #[.slice none 0 0],.int .i64 42]) (by simp [results,Tryz.results152,go_sem,q0]) rfl ?_
   rw [CondP,HRe.out]
   exact⟨HC.out.below.setCell (Nat.le_refl _) _,rfl⟩
  rw [if_neg h16] at hcr
  have HRe:=hid hcr
  have HXl:=hid hxl
  have hgt16:decide ((16:Int) < (Xs.length:Int))=false:=by rw [decide_eq_false_iff_not];omega
  clear hcr hit hxl h16
  go_wp2_with fail
  refine bodyPost_ret (v:=.tuple #[.agg #[.slice VA Xs.length vc],.int .i64 0]) (by simp [results,Tryz.results152,go_sem,q0]) rfl ?_
  rw [CondP,HRe.out]
  exact⟨HC.out.below.setCell (Nat.le_refl _) _,_,Xs.length,Xs,rfl,HXl.out,HP.out,HC.out.row_ans _⟩
 have hgt:decide ((512:Int) < (s.size:Int))=true:=by rw [decide_eq_true_iff];omega
 have HR:Hid (condR s.data.toList=.error 40):=hid (by unfold condR;rw [if_pos (.inr (by rw [len_toList];omega))])
 go_enter Tryz.func152,Tryz.ntmps152
 go_wp2_with fail
 refine bodyPost_ret (v:=.tuple #[.agg #[.slice none 0 0],.int .i64 40]) (by simp [results,Tryz.results152,go_sem];try rfl) rfl ?_
 unfold CondP
 rw [HR.out]
 exact⟨((Below.refl _ _).alloc (Nat.le_refl _) _),rfl⟩
theorem set_kept1 (w:World) (b j:Nat) (x:Value):Kept [b] w (w.setCell ⟨b,j,none⟩ x):=(Kept.refl [b] w).set b j x (.inl (by simp))
theorem step_run_append {P:Program} {w w':World} {ops:Array Oper} {o:Oper} {a:Act} {K:Act→World→Prop} {Q:Exit→Act→World→Prop} {E:Prop} (hgd:o.guard=none) (s x:Operand) (t:TypeId)
  (ho:o.op=.call { callee:=.builtin .append,args:=#[s,x],argTypes:=#[t,t] }) (v u r:Value) (hs:a.eval s=v) (hx:a.eval x=u)
  (hrun:(Builtin.append_ #[t,t] o.type #[v,u]).run P w=.ok r w') (h:K (a.put o.dst r) w') :
  if Region.wanted o (yielded ops a.tmps)=true then Oper.wp P o a w K Q else E:=by
 have hw:Region.wanted o (yielded ops a.tmps)=true:=by simp [Region.wanted,hgd]
 rw [if_pos hw]
 unfold Oper.wp execOp
 simp only [ho,resolve,invoke,builtin,Sem.run_bind,Sem.run_pure,Result.andThen_ok,List.map_toArray,List.map_cons,List.map_nil,hs,hx,hrun]
 exact h
def ixB (l:List UInt8) (c:UInt8):Int:=match l.findIdx? (·==c) with | some k=>(k:Int) | none=>-1
theorem ixB_hit (l:List UInt8) (c:UInt8) (k:Nat) (hk:k < l.length) (h:l[k]=c) (hn:∀j (hj:j < k),l[j]'(Nat.lt_trans hj hk)≠c):ixB l c=k:=by
 have:l.findIdx? (·==c)=some k:=by
  rw [List.findIdx?_eq_some_iff_getElem]
  exact⟨hk,by simp [h],fun j hj=>by simpa using hn j hj⟩
 unfold ixB
 rw [this]
theorem ixB_miss (l:List UInt8) (c:UInt8) (hn:∀j (hj:j < l.length),l[j]≠c):ixB l c = -1:=by
 have:l.findIdx? (·==c)=none:=by
  rw [List.findIdx?_eq_none_iff]
  intro x hx
  obtain⟨j,hj,rfl⟩:=List.getElem_of_mem hx
  simpa using hn j hj
 unfold ixB
 rw [this]
theorem so_IndexB (v:Value) (l:List UInt8) (c:UInt8) (w:World) (h:Rd w 1 v l.length (byteCells l)) (hl:l.length≤1048576) :
  Calls Tryz.prog 222 #[v,.int .u8 c.toNat] w fun e w'=>e=.returned (.int .i64 (ixB l c))∧w=w':=by
 obtain⟨-,A,cp,rfl,hcap,hs⟩:=h
 have hS:=hid hs
 clear hs
 go_enter Tryz.func222,Tryz.ntmps222
 go_wp2_with fail
 go_loop [5,8] (fun _ i=>∃k:Nat,k≤l.length∧i=.int .i64 k∧Hid (∀j (hj:j < l.length),j < k→l[j]≠c)) (fun _ i=>l.length - (intOf i).toNat)
 case atStart=>exact⟨0,Nat.zero_le _,rfl,fun j _ hj=>absurd hj (Nat.not_lt_zero _)⟩
 case round =>
 obtain⟨k,hk,rfl,HN⟩:=hrel
 by_cases hlt:k < l.length
 ·obtain⟨b,off,rfl,hc⟩:=hS.out.resolve_left (by omega)
  have hcell:=hc k (.int .u8 (l[k].toNat:Int)) (by simp [byteCells,hlt])
  clear hc
  by_cases he:l[k]=c
  ·have e1:((c.toNat:Int)==(l[k].toNat:Int))=true:=by rw [he];simp
   have HR:=hid (ixB_hit l c k hlt he (fun j hj=>HN.out j _ hj))
   clear he
   go_wp2_with fail
   go_ret
   exact⟨ret_int HR.out.symm,rfl⟩
  have e1:((c.toNat:Int)==(l[k].toNat:Int))=false:=by
   rw [beq_eq_false_iff_ne];intro e;exact he (by rw [←UInt8.toNat_inj];omega)
  have HN2:Hid (∀j (hj:j < l.length),j < k+1→l[j]≠c):=hid (fun j hj hj2=>by
   by_cases e:j=k
   ·subst e;exact he
   exact HN.out j hj (by omega))
  clear he
  go_wp2_with fail
  go_round
  case rel=>exact⟨k+1,by omega,by go_num,HN2⟩
  case measure=>simp [intOf];omega
 have HR:=hid (ixB_miss l c (fun j hj=>HN.out j hj (by omega)))
 have hke:k=l.length:=by omega
 subst hke
 go_wp2_with fail
 go_ret
 exact⟨ret_int HR.out.symm,rfl⟩
def layV (cur:Array Value) (o:Nat):List Value→Array Value
 | []=>cur
 | x::r=>layV (cur.setIfInBounds o x) (o+1) r
theorem layV_size:∀(vs:List Value) (cur:Array Value) (o:Nat),(layV cur o vs).size=cur.size
 | [],_,_=>rfl
 | x::r,cur,o=>by rw [layV,layV_size r];simp
theorem heap_setCells {e:Nat} (g:Nat):∀(vs:List Value) (o:Nat) (w:World) (cur:Array Value),w.heap[g]?=some (.cells cur e (0,0))→(w.setCells g o vs).heap[g]?=some (.cells (layV cur o vs) e (0,0))
 | [],_,_,_,h=>h
 | x::r,o,w,cur,h=>heap_setCells g r (o+1) (w.setCell ⟨g,o,none⟩ x) _ (heap_setCell_same w g o cur e x h)
theorem layV_get:∀(vs:List Value) (cur:Array Value) (o j:Nat),o+vs.length≤cur.size→(layV cur o vs)[j]?=if o≤j∧j < o+vs.length then vs[j - o]? else cur[j]?
 | [],cur,o,j,_=>by rw [layV,if_neg (by rintro⟨h1,h2⟩;simp at h2;omega)]
 | x::r,cur,o,j,h=>by
   have hl:(x::r).length=r.length+1:=rfl
   rw [layV,layV_get r _ _ _ (by simp;simp at h;omega)]
   by_cases e:j=o
   ·subst e
    rw [if_neg (by omega),if_pos (by omega),Nat.sub_self]
    rw [Array.getElem?_setIfInBounds_self_of_lt (by omega)];rfl
   ·by_cases c:o+1≤j∧j < o+1+r.length
    ·rw [if_pos c,if_pos (by omega),show j - o=(j - (o+1))+1 by omega,List.getElem?_cons_succ]
    ·rw [if_neg c,if_neg (by omega),Array.getElem?_setIfInBounds_ne (by omega)]
theorem kept_setCells (g:Nat):∀(vs:List Value) (o:Nat) (w:World),Kept [g] w (w.setCells g o vs)
 | [],_,w=>Kept.refl _ w
 | x::r,o,w=>(set_kept1 w g o x).trans (kept_setCells g r (o+1) _)
theorem own_deleted {w0 w:World} {g cap:Nat} {l:List UInt8} {k:Nat} (h:Own w0 w 5 1 (.slice (some ⟨g,0,none⟩) l.length cap) l.length (byteCells l)) (hk:k < l.length) (z:Value) :
  Own w0 ((w.setCells g k (byteCells (l.drop (k+1)))).setCells g (l.length - 1) [z]) 5 1 (.slice (some ⟨g,0,none⟩) (l.length - 1) cap) (l.length - 1) (byteCells (l.take k++l.drop (k+1))):=by
 have hlen:(l.take k++l.drop (k+1)).length=l.length - 1:=by simp;omega
 have hbl:∀x:List UInt8,(byteCells x).length=x.length:=fun x=>by simp [byteCells]
 rcases h.own.2 with ⟨hv,_⟩ | ⟨g',cap',cur,hv,hg,hb,hn,hm,hs,ht⟩
 ·cases hv
 cases hv
 have hd:(byteCells (l.drop (k+1))).length=l.length - (k+1):=by rw [hbl];simp
 have h1:=heap_setCells g (byteCells (l.drop (k+1))) k w cur hb
 have h2:=heap_setCells g [z] (l.length - 1) _ _ h1
 refine⟨h.below.trans (((kept_setCells g _ _ _).trans (kept_setCells g _ _ _)).below h.below.size (fun x hx=>by simp at hx;subst hx;exact hg)),?_⟩
 refine⟨by rw [hbl,hlen];omega,.inr ⟨g,cap,_,rfl,hg,h2,by omega,hm,by rw [layV_size,layV_size];exact hs,?_⟩⟩
 rw [Nat.mul_one] at ht hs ⊢
 apply List.ext_getElem?
 intro j
 by_cases hj:j < l.length - 1
 ·rw [List.getElem?_take_of_lt hj,Array.getElem?_toList,layV_get _ _ _ _ (by rw [layV_size];simp;omega),if_neg (by simp;omega),layV_get _ _ _ _ (by rw [hd];omega),hd]
  have hget:∀i,i < l.length→cur[i]?=(byteCells l)[i]?:=fun i hi=>by
   rw [←ht,List.getElem?_take_of_lt hi,Array.getElem?_toList]
  by_cases hjk:j < k
  ·rw [if_neg (by omega),hget j (by omega)]
   simp only [byteCells,List.map_append]
   rw [List.getElem?_append_left (by simp;omega)]
   simp [List.getElem?_take,hjk]
  rw [if_pos (by omega)]
  simp only [byteCells,List.map_append]
  rw [List.getElem?_append_right (by simp;omega)]
  simp only [List.length_map,List.length_take,Nat.min_eq_left (Nat.le_of_lt hk)]
 rw [List.getElem?_eq_none (by simp;omega),List.getElem?_eq_none (by rw [hbl,hlen];omega)]
theorem zero_u8 (w:World):(zeroValue 5).run Tryz.prog w=.ok (.int .u8 0) w:=by kernel_rfl
def DelP (w0:World) (g cap:Nat) (r:List UInt8) (e:Ending) (w':World):Prop:=∃n,n=r.length∧e=.returned (.slice (some ⟨g,0,none⟩) n cap)∧Own w0 w' 5 1 (.slice (some ⟨g,0,none⟩) n cap) n (byteCells r)
theorem so_DeleteB (w0 w:World) (g cap:Nat) (l:List UInt8) (k:Nat) (ho:Own w0 w 5 1 (.slice (some ⟨g,0,none⟩) l.length cap) l.length (byteCells l)) (hk:k < l.length) (hl:l.length≤1048576) :
  Calls Tryz.prog 223 #[.slice (some ⟨g,0,none⟩) l.length cap,.int .i64 (k:Int),.int .i64 ((k:Int)+1)] w (DelP w0 g cap (l.take k++l.drop (k+1))):=by
 have hnl:l.length - 1=(l.take k++l.drop (k+1)).length:=by simp;omega
 have HNL:=hid hnl
 clear hnl
 have HOD:=hid (own_deleted ho.drew hk (.int .u8 0))
 obtain⟨i0,hi,hz0,hz1,hz2⟩:=info_parts byte_info
 have hcells:∀j,j < l.length→w.cell? ⟨g,j,none⟩=(byteCells l)[j]?∧w.frozen? ⟨g,j,none⟩=false:=fun j hj=>by
  rcases ho.own.2 with ⟨hv,_⟩ | ⟨g',cap',cur,hv,hg,hb,hn,hm,hs,ht⟩
  ·cases hv
  cases hv
  refine⟨?_,frozen_of_heap hb j⟩
  rw [cell_of_row _ g j cur _ (0,0) hb,←ht,List.getElem?_take_of_lt (by omega),Array.getElem?_toList]
 have hcap:l.length≤cap∧cap≤maxLen:=by
  rcases ho.own.2 with ⟨hv,_⟩ | ⟨g',cap',cur,hv,hg,hb,hn,hm,hs,ht⟩
  ·cases hv
  cases hv;exact⟨hn,hm⟩
 have hcap2:=hcap.1
 have hcap3:=hcap.2
 unfold maxLen at hcap3
 have hne:((k:Int)==(k:Int)+1)=false:=by rw [beq_eq_false_iff_ne];omega
 have HBk:Hid (∀W:World,Kept [g] w.drew W→(∃o vs,W=w.drew.setCells g o vs)→∀ty,(Builtin.clear_ #[213] ty #[.slice (some ⟨g,l.length - 1,none⟩) (l.length - (l.length - 1)) (cap - (l.length - 1))]).run Tryz.prog W=.ok (.tuple #[]) (W.setCells g (l.length - 1) [.int .u8 0])):=hid (by
  rintro W - ⟨o,vs,rfl⟩ ty
  rcases ho.own.2 with ⟨hv,_⟩ | ⟨g',cap',cur,hv,hg,hb,hn,hm,hs,ht⟩
  ·cases hv
  cases hv
  have h1:=heap_setCells g vs o w.drew cur hb
  have h2:=Lib.run_clear_slice (P:=Tryz.prog) (w.drew.setCells g o vs) 213 5 ty (.int .u8 0) Tryz.underlying213 zero_u8 rfl rfl g (l.length - 1) (l.length - (l.length - 1)) (cap - (l.length - 1)) (by omega)
   (fun j hj=>by
    rw [cell_of_row _ g _ _ _ (0,0) h1]
    rw [Array.getElem?_eq_getElem (by rw [layV_size];omega)];rfl)
   (fun j hj=>frozen_of_heap h1 _)
  rw [show List.replicate (l.length - (l.length - 1)) (Value.int .u8 0)=[.int .u8 0] by rw [show l.length - (l.length - 1)=1 by omega];rfl] at h2
  exact h2)
 have HC:=hid hcells
 clear hcells hcap ho
 have hbl:∀x:List UInt8,(byteCells x).length=x.length:=fun x=>by simp [byteCells]
 by_cases hlast:k+1 < l.length
 ·have HR:Hid (∀ty,(Builtin.append_ #[213,213] ty #[.slice (some ⟨g,0,none⟩) k cap,.slice (some ⟨g,k+1,none⟩) (l.length - (k+1)) (cap - (k+1))]).run Tryz.prog w.drew=.ok (.slice (some ⟨g,0,none⟩) (l.length - 1) cap) (w.drew.setCells g k (byteCells (l.drop (k+1))))):=hid (fun ty=>by
   have h1:=run_append_room_cells (P:=Tryz.prog) w.drew 213 ty 5 i0 Tryz.underlying213 hi g 0 k cap ⟨g,k+1,none⟩ (l.length - (k+1)) (cap - (k+1)) (byteCells (l.drop (k+1))) (by rw [hz1,hbl];simp) (by
     intro j u hj
     have hjl:j < l.length - (k+1):=by
      rcases Nat.lt_or_ge j (l.length - (k+1)) with h | h
      ·exact h
      ·rw [List.getElem?_eq_none (by rw [hbl];simp;omega)] at hj;cases hj
     rw [Addr.add_lit]
     have h3:=(HC.out (k+1+j) (by omega)).1
     have h4:(byteCells l)[k+1+j]?=some u:=by
      rw [←hj];simp [byteCells,List.getElem?_drop]
     rw [h4] at h3
     exact h3) (by intro u hu;unfold byteCells at hu;obtain⟨x,_,rfl⟩:=List.mem_map.1 hu;rfl) (by omega)
    (fun j hj=>by
     rw [hz1,hbl,List.length_drop] at *
     have h3:=(HC.out (k+j) (by omega)).1
     show (w.cell? _).isSome=true
     rw [Nat.zero_add,Nat.mul_one,h3]
     simp [byteCells];omega)
    (fun j hj=>by
     rw [hbl,List.length_drop] at hj
     show w.frozen? _=false
     rw [hz1,Nat.zero_add,Nat.mul_one];exact (HC.out (k+j) (by omega)).2)
   rw [hz1,Nat.zero_add,Nat.mul_one,show k+(l.length - (k+1))=l.length - 1 by omega] at h1
   exact h1)
  have hcc:¬cap=k+1:=by omega
  have hkc:k≤cap:=by omega
  have hki:(0:Int)≤(k:Int)+1:=by omega
  have hkl:(k:Int)+1≤(l.length:Int):=by omega
  go_enter Tryz.func223,Tryz.ntmps223
  go_wp2_with fail
  have hcl:=HBk.out (w.drew.setCells g k (byteCells (l.drop (k+1)))) (kept_setCells g _ _ _) ⟨_,_,rfl⟩
  go_region_law (refine step_run_append (by rfl) _ _ 213 (by rfl) _ _ _ rfl rfl (HR.out _) ?_)
  go_wp2_with fail
  go_ret
  exact⟨_,HNL.out,rfl,HOD.out⟩
 have hk1:k+1=l.length:=by omega
 have hd:l.drop (k+1)=[]:=List.drop_of_length_le (by omega)
 have HR:Hid (∀A c ty,(Builtin.append_ #[213,213] ty #[.slice (some ⟨g,0,none⟩) k cap,.slice A 0 c]).run Tryz.prog w.drew=.ok (.slice (some ⟨g,0,none⟩) (l.length - 1) cap) w.drew):=hid (fun A c ty=>by
  rw [show l.length - 1=k by omega]
  have hkc:k≤cap:=by omega
  cases A<;>simp [Builtin.append_,run_underlying Tryz.underlying213,sizeOf,typeInfo,hi,Builtin.lenOf,Builtin.firstCells,hkc,storeCells,loadCells,loadCellsFrom])
 have hcl:=HBk.out w.drew (Kept.refl _ _) ⟨0,[],rfl⟩
 have hod:Own w0 (w.drew.setCells g (l.length - 1) [.int .u8 0]) 5 1 (.slice (some ⟨g,0,none⟩) (l.length - 1) cap) (l.length - 1) (byteCells (l.take k++l.drop (k+1))):=by
  have h:=HOD.out
  rw [show w.drew.setCells g k (byteCells (l.drop (k+1)))=w.drew by rw [hd];rfl] at h
  exact h
 have HO2:=hid hod
 clear hod
 have hkc:k≤cap:=by omega
 have hki:(0:Int)≤(k:Int)+1:=by omega
 have hkl:(k:Int)+1≤(l.length:Int):=by omega
 have hz:l.length - (k+1)=0:=by omega
 clear hd hlast
 clear hk1
 go_enter Tryz.func223,Tryz.ntmps223
 go_wp2_with fail
 go_region_law (refine step_run_append (by rfl) _ _ 213 (by rfl) _ _ _ rfl rfl (HR.out _ _ _) ?_)
 go_wp2_with fail
 all_goals go_ret
 all_goals refine⟨_,HNL.out,rfl,?_⟩
 all_goals first
  | exact HO2.out
  | (have e:cap=k+1:=by assumption
     have h2:=HO2.out
     rw [e] at h2
     exact h2)
def shownP (p:UInt8→Bool):List UInt8 :=
 let yes:=all256.filter p
 let no:=all256.filter (fun b=>!p b)
 if no=[] then [46] else if yes.length=1∧yes≠[46]∧yes≠[91] then yes
 else if p 93=true then [91,94]++no++[93] else [91]++yes.filter (fun b=>b.toNat != 94)++(if yes.contains 94=true then [94] else [])++[93]
theorem mk_app (a b:List UInt8):mkS a++mkS b=mkS (a++b):=by simp [mkS,ByteArray.ext_iff]
theorem shownB_eq (t:List UInt8):shownB t=shownP (admB t):=rfl
theorem filter_full {α:Type} (p:α→Bool):∀l:List α,(l.filter p).length=l.length↔l.filter (fun b=>!p b)=[]
 | []=>by simp
 | x::r=>by
   have ih:=filter_full p r
   have hle:=List.length_filter_le p r
   cases hx:p x
   ·simp only [hx,List.length_cons,List.filter_cons,Bool.not_false,if_true]
    simp
    omega
   ·simp [hx]
theorem all_nodup:all256.Nodup:=by decide +kernel
theorem cut_byte {l:List UInt8} {k:Nat} (hd:l.Nodup) (hk:k < l.length) (c:UInt8) (h:l[k]=c):l.take k++l.drop (k+1)=l.filter (fun b=>b.toNat != c.toNat):=by
 have e:l=l.take k++c::l.drop (k+1):=by
  conv=>lhs;rw [←List.take_append_drop k l]
  rw [List.drop_eq_getElem_cons hk,h]
 have hd2:=hd
 rw [e,List.nodup_append] at hd2
 obtain⟨_,h2,h3⟩:=hd2
 rw [List.nodup_cons] at h2
 conv=>rhs;rw [e]
 rw [List.filter_append,List.filter_cons_of_neg (by simp)]
 rw [List.filter_eq_self.2,List.filter_eq_self.2]
 ·intro b hb
  simp only [bne_iff_ne,ne_eq,UInt8.toNat_inj]
  rintro rfl
  exact h2.1 hb
 intro b hb
 simp only [bne_iff_ne,ne_eq,UInt8.toNat_inj]
 exact h3 b hb c (List.mem_cons_self)
theorem ixB_some {l:List UInt8} {c:UInt8} (h:l.contains c=true):∃k,∃hk:k < l.length,l[k]=c∧ixB l c=(k:Int):=by
 unfold ixB
 rcases hx:l.findIdx? (·==c) with _ | k
 ·rw [List.findIdx?_eq_none_iff] at hx
  have:=hx c (by simpa using h)
  simp at this
 rw [List.findIdx?_eq_some_iff_getElem] at hx
 obtain⟨hk,he,_⟩:=hx
 exact⟨k,hk,by simpa using he,rfl⟩
theorem ixB_none {l:List UInt8} {c:UInt8} (h:l.contains c=false):ixB l c = -1:=by
 apply ixB_miss
 intro j hj e
 have:c∈l:=by rw [←e];exact List.getElem_mem hj
 simp [this] at h
theorem filter_none {l:List UInt8} (h:l.contains 94=false):l.filter (fun b=>b.toNat != 94)=l:=by
 rw [List.filter_eq_self]
 intro b hb
 simp only [bne_iff_ne,ne_eq]
 intro e
 have:b=94:=by rw [←UInt8.toNat_inj];exact e
 subst this
 simp [hb] at h
theorem bel_len {w w':World} {v:Value} {l:List UInt8} (h:Own w w' 5 1 v l.length (byteCells l)):∃A c,v=.slice A l.length c:=by
 rcases h.own.2 with ⟨rfl,hn⟩ | ⟨g,cap,cur,rfl,_⟩
 ·rw [hn];exact⟨none,0,rfl⟩
 exact⟨_,_,rfl⟩
theorem bel_at {w w':World} {v:Value} {l:List UInt8} (h:Own w w' 5 1 v l.length (byteCells l)) (hn:l.length≠0):∃g c,v=.slice (some ⟨g,0,none⟩) l.length c:=by
 rcases h.own.2 with ⟨rfl,hn'⟩ | ⟨g,cap,cur,rfl,_⟩
 ·exact absurd hn' hn
 exact⟨_,_,rfl⟩
theorem bel_cell {w w':World} {l:List UInt8} {g c:Nat} (h:Own w w' 5 1 (.slice (some ⟨g,0,none⟩) l.length c) l.length (byteCells l)) (k:Nat) (hk:k < l.length):w'.cell? ⟨g,k,none⟩=some (.int .u8 (l[k].toNat:Int)):=by
 have:=h.own.cells (g:=g) rfl k (.int .u8 (l[k].toNat:Int)) (by simp [byteCells,hk])
 rwa [row_addr] at this
theorem bel_one {w w':World} {l:List UInt8} {g c:Nat} {x:UInt8} (h:Own w w' 5 1 (.slice (some ⟨g,0,none⟩) l.length c) l.length (byteCells l)) (hl:l.length=1) (hx:l=[x]):w'.cell? ⟨g,0,none⟩=some (.int .u8 (x.toNat:Int)):=by
 have:=bel_cell h 0 (by omega)
 subst hx
 exact this
theorem bel_conv {w w':World} {v:Value} {l:List UInt8} (h:Own w w' 5 1 v l.length (byteCells l)):(convert 213 9 v).run Tryz.prog w'=.ok (.string (mkS l)) w' :=
 run_string_of_own h.own 213 9 Tryz.underlying213 Tryz.underlying5 Tryz.underlying9
theorem bel_conv8 {w w':World} {r:List UInt8} {n:Nat} {v:Value} (h:Own w w' 5 1 v (n+1) (byteCells r++[.int .u8 94])) (_hn:n=r.length):(convert 213 9 v).run Tryz.prog w'=.ok (.string (mkS (r++[94]))) w':=by
 have e:byteCells r++[.int .u8 94]=byteCells (r++[94]):=by simp [byteCells]
 rw [e] at h
 exact run_string_of_own h.own 213 9 Tryz.underlying213 Tryz.underlying5 Tryz.underlying9
theorem start_below {w w2:World} {o:Obj} (h:Below (w.alloc o).heap.size (w.alloc o) w2):Below w.heap.size w w2:=((Below.refl _ _).alloc (Nat.le_refl _) _).trans (h.mono (by simp))
theorem start_cells {w w2:World} {X:Ws} (h:Below (w.alloc (.cells (wsA X) 273)).heap.size (w.alloc (.cells (wsA X) 273)) w2):w2.heap[w.heap.size]?=some (.cells (wsA X) 273 (0,0)):=(h.block _ (by simp)).trans (heap_alloc_new w _)
theorem show_calls (X:Ws) (p:UInt8→Bool) (h:HasP X p) :
  (∀W,Calls Tryz.prog 220 #[.agg #[.int .u64 (X 0:Nat),.int .u64 (X 1:Nat),.int .u64 (X 2:Nat),.int .u64 (X 3:Nat)]] W fun e w'=>∃v,e=.returned v∧Own W w' 5 1 v (all256.filter p).length (byteCells (all256.filter p))) ∧
  (∀W,Calls Tryz.prog 221 #[.agg #[.int .u64 (X 0:Nat),.int .u64 (X 1:Nat),.int .u64 (X 2:Nat),.int .u64 (X 3:Nat)],.int .u8 93] W fun e w'=>e=.returned (.bool (p 93))∧Below W.heap.size W w') :=
 ⟨fun W=>so_bytesC X p W h,fun W=>so_has X p 93 W h⟩
theorem show_all (X:Ws) (p:UInt8→Bool) (w:World) (yes no res:List UInt8) (HX:Hid (HasP X p)) (hle:yes.length≤256) (hmk:(mkS no).size≤256) (hmk2:(mkS yes).size≤256)
  (HB:Hid (∀W,Calls Tryz.prog 220 #[.agg #[.int .u64 (X 0:Nat),.int .u64 (X 1:Nat),.int .u64 (X 2:Nat),.int .u64 (X 3:Nat)]] W fun e w'=>∃v,e=.returned v∧Own W w' 5 1 v yes.length (byteCells yes)))
  (hl:yes.length=256) (HS:Hid (res=[46])) :
  Calls Tryz.prog 188 #[.agg #[.int .u64 (X 0:Nat),.int .u64 (X 1:Nat),.int .u64 (X 2:Nat),.int .u64 (X 3:Nat)]] w fun e w'=>e=.returned (.string (mkS res))∧Below w.heap.size w w':=by
 have HL:=hid hl
 clear hl
 go_enter Tryz.func188,Tryz.ntmps188
 go_wp2_with (first | (go_at_call 220;refine (HB.out _).mono ?_;rintro e w2 ⟨v,rfl,ho⟩;have HO1:=hid (start_below ho.below);have HX2:=hid (start_cells ho.below);obtain⟨c0,c1,c2,c3⟩:=ws_cells HX2.out;have HOw:=hid ho;obtain⟨A,cp,rfl⟩:=bel_len ho;have e1:((yes.length:Int)==256)=true:=(by rw [HL.out];rfl);clear ho))
 go_ret
 exact⟨ret_str (by rw [HS.out];rfl),HO1.out⟩
theorem show_one (X:Ws) (p:UInt8→Bool) (w:World) (yes no res:List UInt8) (HX:Hid (HasP X p)) (hle:yes.length≤256) (hmk:(mkS no).size≤256) (hmk2:(mkS yes).size≤256)
  (HB:Hid (∀W,Calls Tryz.prog 220 #[.agg #[.int .u64 (X 0:Nat),.int .u64 (X 1:Nat),.int .u64 (X 2:Nat),.int .u64 (X 3:Nat)]] W fun e w'=>∃v,e=.returned v∧Own W w' 5 1 v yes.length (byteCells yes)))
  (HE1:Hid (((yes.length:Int)==256)=false)) (x:UInt8) (HL1:Hid (yes.length=1)) (HX1:Hid (yes=[x])) (e3:((x.toNat:Int)==46)=false) (e4:((x.toNat:Int)==91)=false) (HS:Hid (res=yes)) :
  Calls Tryz.prog 188 #[.agg #[.int .u64 (X 0:Nat),.int .u64 (X 1:Nat),.int .u64 (X 2:Nat),.int .u64 (X 3:Nat)]] w fun e w'=>e=.returned (.string (mkS res))∧Below w.heap.size w w':=by
 have hlen2:(yes.length:Int)≤256:=by omega
 have H0:Hid (0 < yes.length):=hid (by rw [HL1.out];decide)
 have e5:((x.toNat:Int) != 46)=true:=by rw [bne,e3];rfl
 have e6:((x.toNat:Int) != 91)=true:=by rw [bne,e4];rfl
 go_enter Tryz.func188,Tryz.ntmps188
 go_wp2_with (first | (go_at_call 220;refine (HB.out _).mono ?_;rintro e w2 ⟨v,rfl,ho⟩;have HO1:=hid (start_below ho.below);have HX2:=hid (start_cells ho.below);obtain⟨c0,c1,c2,c3⟩:=ws_cells HX2.out;have HOw:=hid ho;obtain⟨g,cp,rfl⟩:=bel_at ho (Nat.pos_iff_ne_zero.1 H0.out);have h0:0 < yes.length:=H0.out;have e1:=HE1.out;have e2:((yes.length:Int)==1)=true:=(by rw [HL1.out];rfl);have cell:=bel_one ho HL1.out HX1.out;have hcv:=bel_conv ho;clear ho))
 go_ret
 exact⟨ret_str (by rw [HS.out]),HO1.out⟩
theorem show_notN (X:Ws) (p:UInt8→Bool) (w:World) (yes no res:List UInt8) (HX:Hid (HasP X p)) (hle:yes.length≤256) (hmk:(mkS no).size≤256) (hmk2:(mkS yes).size≤256)
  (HB:Hid (∀W,Calls Tryz.prog 220 #[.agg #[.int .u64 (X 0:Nat),.int .u64 (X 1:Nat),.int .u64 (X 2:Nat),.int .u64 (X 3:Nat)]] W fun e w'=>∃v,e=.returned v∧Own W w' 5 1 v yes.length (byteCells yes)))
  (HE1:Hid (((yes.length:Int)==256)=false)) (hl1:yes.length≠1) (HH:Hid (∀W,Calls Tryz.prog 221 #[.agg #[.int .u64 (X 0:Nat),.int .u64 (X 1:Nat),.int .u64 (X 2:Nat),.int .u64 (X 3:Nat)],.int .u8 93] W fun e w'=>e=.returned (.bool true)∧Below W.heap.size W w')) (HBN:Hid (∀Y:Ws,HasP Y (fun b=>!p b)→∀W,Calls Tryz.prog 220 #[.agg #[.int .u64 (Y 0:Nat),.int .u64 (Y 1:Nat),.int .u64 (Y 2:Nat),.int .u64 (Y 3:Nat)]] W fun e w'=>∃v,e=.returned v∧Own W w' 5 1 v no.length (byteCells no))) (HS:Hid (res=[91,94]++no++[93])) :
  Calls Tryz.prog 188 #[.agg #[.int .u64 (X 0:Nat),.int .u64 (X 1:Nat),.int .u64 (X 2:Nat),.int .u64 (X 3:Nat)]] w fun e w'=>e=.returned (.string (mkS res))∧Below w.heap.size w w':=by
 have hlen2:(yes.length:Int)≤256:=by omega
 have HL1:=hid hl1
 clear hl1
 go_enter Tryz.func188,Tryz.ntmps188
 go_wp2_with (first | (go_at_call 220;refine (HBN.out _ HY.out _).mono ?_;rintro e w5 ⟨u,rfl,ho⟩;have HO4:=hid (HO3.out.trans (ho.below.mono HO3.out.size));have hcv:=bel_conv ho;clear ho) | (go_at_call 220;refine (HB.out _).mono ?_;rintro e w2 ⟨v,rfl,ho⟩;have HO1:=hid (start_below ho.below);have HX2:=hid (start_cells ho.below);obtain⟨c0,c1,c2,c3⟩:=ws_cells HX2.out;have HOw:=hid ho;obtain⟨A,cp,rfl⟩:=bel_len ho;have e1:=HE1.out;have e2:((yes.length:Int)==1)=false:=(by rw [beq_eq_false_iff_ne];have:=HL1.out;omega);clear ho) | (go_at_call 221;refine (HH.out _).mono ?_;rintro e w3 ⟨rfl,hb⟩;have HO2:=hid (HO1.out.trans (hb.mono HO1.out.size));have hx3:=(hb.block _ (block_lt HX2.out)).trans HX2.out;have HX3:=hid hx3;obtain⟨d0,d1,d2,d3⟩:=ws_cells hx3;have HOw3:=hid (HOw.out.call hb);have hcv3:=bel_conv HOw3.out;clear hb hx3) | (go_at_call 186;refine (so_otherA X p _ HX.out).mono ?_;rintro e w4 ⟨Y,rfl,hY,hb⟩;have HY:=hid hY;have HO3:=hid (HO2.out.trans (hb.mono HO2.out.size));clear hb hY))
 go_ret
 exact⟨ret_str (by rw [HS.out,show (⟨#[91,94]⟩:ByteArray)=mkS [91,94] from rfl,show (⟨#[93]⟩:ByteArray)=mkS [93] from rfl,mk_app,mk_app]),HO4.out⟩
theorem show_not46 (X:Ws) (p:UInt8→Bool) (w:World) (yes no res:List UInt8) (HX:Hid (HasP X p)) (hle:yes.length≤256) (hmk:(mkS no).size≤256) (hmk2:(mkS yes).size≤256)
  (HB:Hid (∀W,Calls Tryz.prog 220 #[.agg #[.int .u64 (X 0:Nat),.int .u64 (X 1:Nat),.int .u64 (X 2:Nat),.int .u64 (X 3:Nat)]] W fun e w'=>∃v,e=.returned v∧Own W w' 5 1 v yes.length (byteCells yes)))
  (HE1:Hid (((yes.length:Int)==256)=false)) (HL1:Hid (yes.length=1)) (HX1:Hid (yes=[46])) (HH:Hid (∀W,Calls Tryz.prog 221 #[.agg #[.int .u64 (X 0:Nat),.int .u64 (X 1:Nat),.int .u64 (X 2:Nat),.int .u64 (X 3:Nat)],.int .u8 93] W fun e w'=>e=.returned (.bool true)∧Below W.heap.size W w')) (HBN:Hid (∀Y:Ws,HasP Y (fun b=>!p b)→∀W,Calls Tryz.prog 220 #[.agg #[.int .u64 (Y 0:Nat),.int .u64 (Y 1:Nat),.int .u64 (Y 2:Nat),.int .u64 (Y 3:Nat)]] W fun e w'=>∃v,e=.returned v∧Own W w' 5 1 v no.length (byteCells no))) (HS:Hid (res=[91,94]++no++[93])) :
  Calls Tryz.prog 188 #[.agg #[.int .u64 (X 0:Nat),.int .u64 (X 1:Nat),.int .u64 (X 2:Nat),.int .u64 (X 3:Nat)]] w fun e w'=>e=.returned (.string (mkS res))∧Below w.heap.size w w':=by
 have hlen2:(yes.length:Int)≤256:=by omega
 have H0:Hid (0 < yes.length):=hid (by rw [HL1.out];decide)
 go_enter Tryz.func188,Tryz.ntmps188
 go_wp2_with (first | (go_at_call 220;refine (HBN.out _ HY.out _).mono ?_;rintro e w5 ⟨u,rfl,ho⟩;have HO4:=hid (HO3.out.trans (ho.below.mono HO3.out.size));have hcv:=bel_conv ho;clear ho) | (go_at_call 220;refine (HB.out _).mono ?_;rintro e w2 ⟨v,rfl,ho⟩;have HO1:=hid (start_below ho.below);have HX2:=hid (start_cells ho.below);obtain⟨c0,c1,c2,c3⟩:=ws_cells HX2.out;have HOw:=hid ho;obtain⟨g,cp,rfl⟩:=bel_at ho (Nat.pos_iff_ne_zero.1 H0.out);have h0:0 < yes.length:=H0.out;have e1:=HE1.out;have e2:((yes.length:Int)==1)=true:=(by rw [HL1.out];rfl);have cell:=bel_one ho HL1.out HX1.out;clear ho) | (go_at_call 221;refine (HH.out _).mono ?_;rintro e w3 ⟨rfl,hb⟩;have HO2:=hid (HO1.out.trans (hb.mono HO1.out.size));have hx3:=(hb.block _ (block_lt HX2.out)).trans HX2.out;have HX3:=hid hx3;obtain⟨d0,d1,d2,d3⟩:=ws_cells hx3;have HOw3:=hid (HOw.out.call hb);have hcv3:=bel_conv HOw3.out;clear hb hx3) | (go_at_call 186;refine (so_otherA X p _ HX.out).mono ?_;rintro e w4 ⟨Y,rfl,hY,hb⟩;have HY:=hid hY;have HO3:=hid (HO2.out.trans (hb.mono HO2.out.size));clear hb hY))
 go_ret
 exact⟨ret_str (by rw [HS.out,show (⟨#[91,94]⟩:ByteArray)=mkS [91,94] from rfl,show (⟨#[93]⟩:ByteArray)=mkS [93] from rfl,mk_app,mk_app]),HO4.out⟩
theorem show_not91 (X:Ws) (p:UInt8→Bool) (w:World) (yes no res:List UInt8) (HX:Hid (HasP X p)) (hle:yes.length≤256) (hmk:(mkS no).size≤256) (hmk2:(mkS yes).size≤256)
  (HB:Hid (∀W,Calls Tryz.prog 220 #[.agg #[.int .u64 (X 0:Nat),.int .u64 (X 1:Nat),.int .u64 (X 2:Nat),.int .u64 (X 3:Nat)]] W fun e w'=>∃v,e=.returned v∧Own W w' 5 1 v yes.length (byteCells yes)))
  (HE1:Hid (((yes.length:Int)==256)=false)) (HL1:Hid (yes.length=1)) (HX1:Hid (yes=[91])) (HH:Hid (∀W,Calls Tryz.prog 221 #[.agg #[.int .u64 (X 0:Nat),.int .u64 (X 1:Nat),.int .u64 (X 2:Nat),.int .u64 (X 3:Nat)],.int .u8 93] W fun e w'=>e=.returned (.bool true)∧Below W.heap.size W w')) (HBN:Hid (∀Y:Ws,HasP Y (fun b=>!p b)→∀W,Calls Tryz.prog 220 #[.agg #[.int .u64 (Y 0:Nat),.int .u64 (Y 1:Nat),.int .u64 (Y 2:Nat),.int .u64 (Y 3:Nat)]] W fun e w'=>∃v,e=.returned v∧Own W w' 5 1 v no.length (byteCells no))) (HS:Hid (res=[91,94]++no++[93])) :
  Calls Tryz.prog 188 #[.agg #[.int .u64 (X 0:Nat),.int .u64 (X 1:Nat),.int .u64 (X 2:Nat),.int .u64 (X 3:Nat)]] w fun e w'=>e=.returned (.string (mkS res))∧Below w.heap.size w w':=by
 have hlen2:(yes.length:Int)≤256:=by omega
 have H0:Hid (0 < yes.length):=hid (by rw [HL1.out];decide)
 go_enter Tryz.func188,Tryz.ntmps188
 go_wp2_with (first | (go_at_call 220;refine (HBN.out _ HY.out _).mono ?_;rintro e w5 ⟨u,rfl,ho⟩;have HO4:=hid (HO3.out.trans (ho.below.mono HO3.out.size));have hcv:=bel_conv ho;clear ho) | (go_at_call 220;refine (HB.out _).mono ?_;rintro e w2 ⟨v,rfl,ho⟩;have HO1:=hid (start_below ho.below);have HX2:=hid (start_cells ho.below);obtain⟨c0,c1,c2,c3⟩:=ws_cells HX2.out;have HOw:=hid ho;obtain⟨g,cp,rfl⟩:=bel_at ho (Nat.pos_iff_ne_zero.1 H0.out);have h0:0 < yes.length:=H0.out;have e1:=HE1.out;have e2:((yes.length:Int)==1)=true:=(by rw [HL1.out];rfl);have cell:=bel_one ho HL1.out HX1.out;clear ho) | (go_at_call 221;refine (HH.out _).mono ?_;rintro e w3 ⟨rfl,hb⟩;have HO2:=hid (HO1.out.trans (hb.mono HO1.out.size));have hx3:=(hb.block _ (block_lt HX2.out)).trans HX2.out;have HX3:=hid hx3;obtain⟨d0,d1,d2,d3⟩:=ws_cells hx3;have HOw3:=hid (HOw.out.call hb);have hcv3:=bel_conv HOw3.out;clear hb hx3) | (go_at_call 186;refine (so_otherA X p _ HX.out).mono ?_;rintro e w4 ⟨Y,rfl,hY,hb⟩;have HY:=hid hY;have HO3:=hid (HO2.out.trans (hb.mono HO2.out.size));clear hb hY))
 go_ret
 exact⟨ret_str (by rw [HS.out,show (⟨#[91,94]⟩:ByteArray)=mkS [91,94] from rfl,show (⟨#[93]⟩:ByteArray)=mkS [93] from rfl,mk_app,mk_app]),HO4.out⟩
theorem show_cutN (X:Ws) (p:UInt8→Bool) (w:World) (yes no res:List UInt8) (HX:Hid (HasP X p)) (hle:yes.length≤256) (hmk:(mkS no).size≤256) (hmk2:(mkS yes).size≤256)
  (HB:Hid (∀W,Calls Tryz.prog 220 #[.agg #[.int .u64 (X 0:Nat),.int .u64 (X 1:Nat),.int .u64 (X 2:Nat),.int .u64 (X 3:Nat)]] W fun e w'=>∃v,e=.returned v∧Own W w' 5 1 v yes.length (byteCells yes)))
  (HE1:Hid (((yes.length:Int)==256)=false)) (hl1:yes.length≠1) (HH:Hid (∀W,Calls Tryz.prog 221 #[.agg #[.int .u64 (X 0:Nat),.int .u64 (X 1:Nat),.int .u64 (X 2:Nat),.int .u64 (X 3:Nat)],.int .u8 93] W fun e w'=>e=.returned (.bool false)∧Below W.heap.size W w')) (k:Nat) (hk:k < yes.length) (r:List UInt8) (HRL:Hid (r.length≤256)) (HD:Hid (∀w0 W g cap,Own w0 W 5 1 (.slice (some ⟨g,0,none⟩) yes.length cap) yes.length (byteCells yes)→Calls Tryz.prog 223 #[.slice (some ⟨g,0,none⟩) yes.length cap,.int .i64 (k:Int),.int .i64 ((k:Int)+1)] W (DelP w0 g cap r))) (HI:Hid (∀W v,Rd W 1 v yes.length (byteCells yes)→Calls Tryz.prog 222 #[v,.int .u8 94] W fun e w'=>e=.returned (.int .i64 (k:Int))∧W=w')) (HS:Hid (res=[91]++(r++[94])++[93])) :
  Calls Tryz.prog 188 #[.agg #[.int .u64 (X 0:Nat),.int .u64 (X 1:Nat),.int .u64 (X 2:Nat),.int .u64 (X 3:Nat)]] w fun e w'=>e=.returned (.string (mkS res))∧Below w.heap.size w w':=by
 have hlen2:(yes.length:Int)≤256:=by omega
 have HL1:=hid hl1
 clear hl1
 have H0:Hid (0 < yes.length):=hid (by omega)
 obtain⟨i0,hi,hz0,hz1,hz2⟩:=info_parts byte_info
 have hk0:(0:Int)≤(k:Int):=by omega
 have hk1:k≤256:=by omega
 have hmk3:(mkS (r++[94])).size≤257:=by rw [mkS_size];have:=HRL.out;simp;omega
 go_enter Tryz.func188,Tryz.ntmps188
 go_wp2_with (first | (go_at_call 220;refine (HB.out _).mono ?_;rintro e w2 ⟨v,rfl,ho⟩;have HO1:=hid (start_below ho.below);have HX2:=hid (start_cells ho.below);obtain⟨c0,c1,c2,c3⟩:=ws_cells HX2.out;have HOw:=hid ho;obtain⟨g,cp,rfl⟩:=bel_at ho (Nat.pos_iff_ne_zero.1 H0.out);have h0:0 < yes.length:=H0.out;have e1:=HE1.out;have e2:((yes.length:Int)==1)=false:=(by rw [beq_eq_false_iff_ne];have:=HL1.out;omega);clear ho) | (go_at_call 221;refine (HH.out _).mono ?_;rintro e w3 ⟨rfl,hb⟩;have HO2:=hid (HO1.out.trans (hb.mono HO1.out.size));have hx3:=(hb.block _ (block_lt HX2.out)).trans HX2.out;have HX3:=hid hx3;obtain⟨d0,d1,d2,d3⟩:=ws_cells hx3;have HOw3:=hid (HOw.out.call hb);have hcv3:=bel_conv HOw3.out;clear hb hx3) | (go_at_call 222;refine (HI.out _ _ (Rd.of_own HOw3.out.own)).mono ?_;rintro e w6 ⟨rfl,rfl⟩) | (go_at_call 223;refine (HD.out _ _ _ _ HOw3.out).mono ?_;rintro e w7 ⟨n7,hn7,rfl,ho7⟩;have HN7:=hid hn7;have hle7:n7≤256:=(by have:=HRL.out;omega);have hmx7:n7 < 2 ^ 62:=(by omega);have HO7:=hid ho7;clear ho7 hn7) | (at_builtin;refine wpList_push1 rfl _ _ 213 rfl (w.alloc (.cells (wsA X) 273)).heap.size 5 i0 (.int .u8 0) 1 Tryz.underlying213 hi hz0 hz1 hz2 rfl _ _ _ rfl HO7.out.own _ rfl rfl (by unfold maxLen;omega) (by omega) HO7.out.size ?_;intro g8 cp8 w8 hown hg;have HO8:=hid (HO7.out.push hown hg);have hcv8:=bel_conv8 HO8.out HN7.out;clear hown hg))
 go_ret
 exact⟨ret_str (by rw [HS.out,show (⟨#[91]⟩:ByteArray)=mkS [91] from rfl,show (⟨#[93]⟩:ByteArray)=mkS [93] from rfl,mk_app,mk_app]),start_below HO8.out.below⟩
theorem show_cut46 (X:Ws) (p:UInt8→Bool) (w:World) (yes no res:List UInt8) (HX:Hid (HasP X p)) (hle:yes.length≤256) (hmk:(mkS no).size≤256) (hmk2:(mkS yes).size≤256)
  (HB:Hid (∀W,Calls Tryz.prog 220 #[.agg #[.int .u64 (X 0:Nat),.int .u64 (X 1:Nat),.int .u64 (X 2:Nat),.int .u64 (X 3:Nat)]] W fun e w'=>∃v,e=.returned v∧Own W w' 5 1 v yes.length (byteCells yes)))
  (HE1:Hid (((yes.length:Int)==256)=false)) (HL1:Hid (yes.length=1)) (HX1:Hid (yes=[46])) (HH:Hid (∀W,Calls Tryz.prog 221 #[.agg #[.int .u64 (X 0:Nat),.int .u64 (X 1:Nat),.int .u64 (X 2:Nat),.int .u64 (X 3:Nat)],.int .u8 93] W fun e w'=>e=.returned (.bool false)∧Below W.heap.size W w')) (k:Nat) (hk:k < yes.length) (r:List UInt8) (HRL:Hid (r.length≤256)) (HD:Hid (∀w0 W g cap,Own w0 W 5 1 (.slice (some ⟨g,0,none⟩) yes.length cap) yes.length (byteCells yes)→Calls Tryz.prog 223 #[.slice (some ⟨g,0,none⟩) yes.length cap,.int .i64 (k:Int),.int .i64 ((k:Int)+1)] W (DelP w0 g cap r))) (HI:Hid (∀W v,Rd W 1 v yes.length (byteCells yes)→Calls Tryz.prog 222 #[v,.int .u8 94] W fun e w'=>e=.returned (.int .i64 (k:Int))∧W=w')) (HS:Hid (res=[91]++(r++[94])++[93])) :
  Calls Tryz.prog 188 #[.agg #[.int .u64 (X 0:Nat),.int .u64 (X 1:Nat),.int .u64 (X 2:Nat),.int .u64 (X 3:Nat)]] w fun e w'=>e=.returned (.string (mkS res))∧Below w.heap.size w w':=by
 have hlen2:(yes.length:Int)≤256:=by omega
 have H0:Hid (0 < yes.length):=hid (by rw [HL1.out];decide)
 obtain⟨i0,hi,hz0,hz1,hz2⟩:=info_parts byte_info
 have hk0:(0:Int)≤(k:Int):=by omega
 have hk1:k≤256:=by omega
 have hmk3:(mkS (r++[94])).size≤257:=by rw [mkS_size];have:=HRL.out;simp;omega
 go_enter Tryz.func188,Tryz.ntmps188
 go_wp2_with (first | (go_at_call 220;refine (HB.out _).mono ?_;rintro e w2 ⟨v,rfl,ho⟩;have HO1:=hid (start_below ho.below);have HX2:=hid (start_cells ho.below);obtain⟨c0,c1,c2,c3⟩:=ws_cells HX2.out;have HOw:=hid ho;obtain⟨g,cp,rfl⟩:=bel_at ho (Nat.pos_iff_ne_zero.1 H0.out);have h0:0 < yes.length:=H0.out;have e1:=HE1.out;have e2:((yes.length:Int)==1)=true:=(by rw [HL1.out];rfl);have cell:=bel_one ho HL1.out HX1.out;clear ho) | (go_at_call 221;refine (HH.out _).mono ?_;rintro e w3 ⟨rfl,hb⟩;have HO2:=hid (HO1.out.trans (hb.mono HO1.out.size));have hx3:=(hb.block _ (block_lt HX2.out)).trans HX2.out;have HX3:=hid hx3;obtain⟨d0,d1,d2,d3⟩:=ws_cells hx3;have HOw3:=hid (HOw.out.call hb);have hcv3:=bel_conv HOw3.out;clear hb hx3) | (go_at_call 222;refine (HI.out _ _ (Rd.of_own HOw3.out.own)).mono ?_;rintro e w6 ⟨rfl,rfl⟩) | (go_at_call 223;refine (HD.out _ _ _ _ HOw3.out).mono ?_;rintro e w7 ⟨n7,hn7,rfl,ho7⟩;have HN7:=hid hn7;have hle7:n7≤256:=(by have:=HRL.out;omega);have hmx7:n7 < 2 ^ 62:=(by omega);have HO7:=hid ho7;clear ho7 hn7) | (at_builtin;refine wpList_push1 rfl _ _ 213 rfl (w.alloc (.cells (wsA X) 273)).heap.size 5 i0 (.int .u8 0) 1 Tryz.underlying213 hi hz0 hz1 hz2 rfl _ _ _ rfl HO7.out.own _ rfl rfl (by unfold maxLen;omega) (by omega) HO7.out.size ?_;intro g8 cp8 w8 hown hg;have HO8:=hid (HO7.out.push hown hg);have hcv8:=bel_conv8 HO8.out HN7.out;clear hown hg))
 go_ret
 exact⟨ret_str (by rw [HS.out,show (⟨#[91]⟩:ByteArray)=mkS [91] from rfl,show (⟨#[93]⟩:ByteArray)=mkS [93] from rfl,mk_app,mk_app]),start_below HO8.out.below⟩
theorem show_cut91 (X:Ws) (p:UInt8→Bool) (w:World) (yes no res:List UInt8) (HX:Hid (HasP X p)) (hle:yes.length≤256) (hmk:(mkS no).size≤256) (hmk2:(mkS yes).size≤256)
  (HB:Hid (∀W,Calls Tryz.prog 220 #[.agg #[.int .u64 (X 0:Nat),.int .u64 (X 1:Nat),.int .u64 (X 2:Nat),.int .u64 (X 3:Nat)]] W fun e w'=>∃v,e=.returned v∧Own W w' 5 1 v yes.length (byteCells yes)))
  (HE1:Hid (((yes.length:Int)==256)=false)) (HL1:Hid (yes.length=1)) (HX1:Hid (yes=[91])) (HH:Hid (∀W,Calls Tryz.prog 221 #[.agg #[.int .u64 (X 0:Nat),.int .u64 (X 1:Nat),.int .u64 (X 2:Nat),.int .u64 (X 3:Nat)],.int .u8 93] W fun e w'=>e=.returned (.bool false)∧Below W.heap.size W w')) (k:Nat) (hk:k < yes.length) (r:List UInt8) (HRL:Hid (r.length≤256)) (HD:Hid (∀w0 W g cap,Own w0 W 5 1 (.slice (some ⟨g,0,none⟩) yes.length cap) yes.length (byteCells yes)→Calls Tryz.prog 223 #[.slice (some ⟨g,0,none⟩) yes.length cap,.int .i64 (k:Int),.int .i64 ((k:Int)+1)] W (DelP w0 g cap r))) (HI:Hid (∀W v,Rd W 1 v yes.length (byteCells yes)→Calls Tryz.prog 222 #[v,.int .u8 94] W fun e w'=>e=.returned (.int .i64 (k:Int))∧W=w')) (HS:Hid (res=[91]++(r++[94])++[93])) :
  Calls Tryz.prog 188 #[.agg #[.int .u64 (X 0:Nat),.int .u64 (X 1:Nat),.int .u64 (X 2:Nat),.int .u64 (X 3:Nat)]] w fun e w'=>e=.returned (.string (mkS res))∧Below w.heap.size w w':=by
 have hlen2:(yes.length:Int)≤256:=by omega
 have H0:Hid (0 < yes.length):=hid (by rw [HL1.out];decide)
 obtain⟨i0,hi,hz0,hz1,hz2⟩:=info_parts byte_info
 have hk0:(0:Int)≤(k:Int):=by omega
 have hk1:k≤256:=by omega
 have hmk3:(mkS (r++[94])).size≤257:=by rw [mkS_size];have:=HRL.out;simp;omega
 go_enter Tryz.func188,Tryz.ntmps188
 go_wp2_with (first | (go_at_call 220;refine (HB.out _).mono ?_;rintro e w2 ⟨v,rfl,ho⟩;have HO1:=hid (start_below ho.below);have HX2:=hid (start_cells ho.below);obtain⟨c0,c1,c2,c3⟩:=ws_cells HX2.out;have HOw:=hid ho;obtain⟨g,cp,rfl⟩:=bel_at ho (Nat.pos_iff_ne_zero.1 H0.out);have h0:0 < yes.length:=H0.out;have e1:=HE1.out;have e2:((yes.length:Int)==1)=true:=(by rw [HL1.out];rfl);have cell:=bel_one ho HL1.out HX1.out;clear ho) | (go_at_call 221;refine (HH.out _).mono ?_;rintro e w3 ⟨rfl,hb⟩;have HO2:=hid (HO1.out.trans (hb.mono HO1.out.size));have hx3:=(hb.block _ (block_lt HX2.out)).trans HX2.out;have HX3:=hid hx3;obtain⟨d0,d1,d2,d3⟩:=ws_cells hx3;have HOw3:=hid (HOw.out.call hb);have hcv3:=bel_conv HOw3.out;clear hb hx3) | (go_at_call 222;refine (HI.out _ _ (Rd.of_own HOw3.out.own)).mono ?_;rintro e w6 ⟨rfl,rfl⟩) | (go_at_call 223;refine (HD.out _ _ _ _ HOw3.out).mono ?_;rintro e w7 ⟨n7,hn7,rfl,ho7⟩;have HN7:=hid hn7;have hle7:n7≤256:=(by have:=HRL.out;omega);have hmx7:n7 < 2 ^ 62:=(by omega);have HO7:=hid ho7;clear ho7 hn7) | (at_builtin;refine wpList_push1 rfl _ _ 213 rfl (w.alloc (.cells (wsA X) 273)).heap.size 5 i0 (.int .u8 0) 1 Tryz.underlying213 hi hz0 hz1 hz2 rfl _ _ _ rfl HO7.out.own _ rfl rfl (by unfold maxLen;omega) (by omega) HO7.out.size ?_;intro g8 cp8 w8 hown hg;have HO8:=hid (HO7.out.push hown hg);have hcv8:=bel_conv8 HO8.out HN7.out;clear hown hg))
 go_ret
 exact⟨ret_str (by rw [HS.out,show (⟨#[91]⟩:ByteArray)=mkS [91] from rfl,show (⟨#[93]⟩:ByteArray)=mkS [93] from rfl,mk_app,mk_app]),start_below HO8.out.below⟩
theorem show_yesN (X:Ws) (p:UInt8→Bool) (w:World) (yes no res:List UInt8) (HX:Hid (HasP X p)) (hle:yes.length≤256) (hmk:(mkS no).size≤256) (hmk2:(mkS yes).size≤256)
  (HB:Hid (∀W,Calls Tryz.prog 220 #[.agg #[.int .u64 (X 0:Nat),.int .u64 (X 1:Nat),.int .u64 (X 2:Nat),.int .u64 (X 3:Nat)]] W fun e w'=>∃v,e=.returned v∧Own W w' 5 1 v yes.length (byteCells yes)))
  (HE1:Hid (((yes.length:Int)==256)=false)) (hl1:yes.length≠1) (HH:Hid (∀W,Calls Tryz.prog 221 #[.agg #[.int .u64 (X 0:Nat),.int .u64 (X 1:Nat),.int .u64 (X 2:Nat),.int .u64 (X 3:Nat)],.int .u8 93] W fun e w'=>e=.returned (.bool false)∧Below W.heap.size W w')) (HI:Hid (∀W v,Rd W 1 v yes.length (byteCells yes)→Calls Tryz.prog 222 #[v,.int .u8 94] W fun e w'=>e=.returned (.int .i64 (-1))∧W=w')) (HS:Hid (res=[91]++yes++[93])) :
  Calls Tryz.prog 188 #[.agg #[.int .u64 (X 0:Nat),.int .u64 (X 1:Nat),.int .u64 (X 2:Nat),.int .u64 (X 3:Nat)]] w fun e w'=>e=.returned (.string (mkS res))∧Below w.heap.size w w':=by
 have hlen2:(yes.length:Int)≤256:=by omega
 have HL1:=hid hl1
 clear hl1
 go_enter Tryz.func188,Tryz.ntmps188
 go_wp2_with (first | (go_at_call 220;refine (HB.out _).mono ?_;rintro e w2 ⟨v,rfl,ho⟩;have HO1:=hid (start_below ho.below);have HX2:=hid (start_cells ho.below);obtain⟨c0,c1,c2,c3⟩:=ws_cells HX2.out;have HOw:=hid ho;obtain⟨A,cp,rfl⟩:=bel_len ho;have e1:=HE1.out;have e2:((yes.length:Int)==1)=false:=(by rw [beq_eq_false_iff_ne];have:=HL1.out;omega);clear ho) | (go_at_call 221;refine (HH.out _).mono ?_;rintro e w3 ⟨rfl,hb⟩;have HO2:=hid (HO1.out.trans (hb.mono HO1.out.size));have hx3:=(hb.block _ (block_lt HX2.out)).trans HX2.out;have HX3:=hid hx3;obtain⟨d0,d1,d2,d3⟩:=ws_cells hx3;have HOw3:=hid (HOw.out.call hb);have hcv3:=bel_conv HOw3.out;clear hb hx3) | (go_at_call 222;refine (HI.out _ _ (Rd.of_own HOw3.out.own)).mono ?_;rintro e w6 ⟨rfl,rfl⟩))
 go_ret
 exact⟨ret_str (by rw [HS.out,show (⟨#[91]⟩:ByteArray)=mkS [91] from rfl,show (⟨#[93]⟩:ByteArray)=mkS [93] from rfl,mk_app,mk_app]),HO2.out⟩
theorem show_yes46 (X:Ws) (p:UInt8→Bool) (w:World) (yes no res:List UInt8) (HX:Hid (HasP X p)) (hle:yes.length≤256) (hmk:(mkS no).size≤256) (hmk2:(mkS yes).size≤256)
  (HB:Hid (∀W,Calls Tryz.prog 220 #[.agg #[.int .u64 (X 0:Nat),.int .u64 (X 1:Nat),.int .u64 (X 2:Nat),.int .u64 (X 3:Nat)]] W fun e w'=>∃v,e=.returned v∧Own W w' 5 1 v yes.length (byteCells yes)))
  (HE1:Hid (((yes.length:Int)==256)=false)) (HL1:Hid (yes.length=1)) (HX1:Hid (yes=[46])) (HH:Hid (∀W,Calls Tryz.prog 221 #[.agg #[.int .u64 (X 0:Nat),.int .u64 (X 1:Nat),.int .u64 (X 2:Nat),.int .u64 (X 3:Nat)],.int .u8 93] W fun e w'=>e=.returned (.bool false)∧Below W.heap.size W w')) (HI:Hid (∀W v,Rd W 1 v yes.length (byteCells yes)→Calls Tryz.prog 222 #[v,.int .u8 94] W fun e w'=>e=.returned (.int .i64 (-1))∧W=w')) (HS:Hid (res=[91]++yes++[93])) :
  Calls Tryz.prog 188 #[.agg #[.int .u64 (X 0:Nat),.int .u64 (X 1:Nat),.int .u64 (X 2:Nat),.int .u64 (X 3:Nat)]] w fun e w'=>e=.returned (.string (mkS res))∧Below w.heap.size w w':=by
 have hlen2:(yes.length:Int)≤256:=by omega
 have H0:Hid (0 < yes.length):=hid (by rw [HL1.out];decide)
 go_enter Tryz.func188,Tryz.ntmps188
 go_wp2_with (first | (go_at_call 220;refine (HB.out _).mono ?_;rintro e w2 ⟨v,rfl,ho⟩;have HO1:=hid (start_below ho.below);have HX2:=hid (start_cells ho.below);obtain⟨c0,c1,c2,c3⟩:=ws_cells HX2.out;have HOw:=hid ho;obtain⟨g,cp,rfl⟩:=bel_at ho (Nat.pos_iff_ne_zero.1 H0.out);have h0:0 < yes.length:=H0.out;have e1:=HE1.out;have e2:((yes.length:Int)==1)=true:=(by rw [HL1.out];rfl);have cell:=bel_one ho HL1.out HX1.out;clear ho) | (go_at_call 221;refine (HH.out _).mono ?_;rintro e w3 ⟨rfl,hb⟩;have HO2:=hid (HO1.out.trans (hb.mono HO1.out.size));have hx3:=(hb.block _ (block_lt HX2.out)).trans HX2.out;have HX3:=hid hx3;obtain⟨d0,d1,d2,d3⟩:=ws_cells hx3;have HOw3:=hid (HOw.out.call hb);have hcv3:=bel_conv HOw3.out;clear hb hx3) | (go_at_call 222;refine (HI.out _ _ (Rd.of_own HOw3.out.own)).mono ?_;rintro e w6 ⟨rfl,rfl⟩))
 go_ret
 exact⟨ret_str (by rw [HS.out,show (⟨#[91]⟩:ByteArray)=mkS [91] from rfl,show (⟨#[93]⟩:ByteArray)=mkS [93] from rfl,mk_app,mk_app]),HO2.out⟩
theorem show_yes91 (X:Ws) (p:UInt8→Bool) (w:World) (yes no res:List UInt8) (HX:Hid (HasP X p)) (hle:yes.length≤256) (hmk:(mkS no).size≤256) (hmk2:(mkS yes).size≤256)
  (HB:Hid (∀W,Calls Tryz.prog 220 #[.agg #[.int .u64 (X 0:Nat),.int .u64 (X 1:Nat),.int .u64 (X 2:Nat),.int .u64 (X 3:Nat)]] W fun e w'=>∃v,e=.returned v∧Own W w' 5 1 v yes.length (byteCells yes)))
  (HE1:Hid (((yes.length:Int)==256)=false)) (HL1:Hid (yes.length=1)) (HX1:Hid (yes=[91])) (HH:Hid (∀W,Calls Tryz.prog 221 #[.agg #[.int .u64 (X 0:Nat),.int .u64 (X 1:Nat),.int .u64 (X 2:Nat),.int .u64 (X 3:Nat)],.int .u8 93] W fun e w'=>e=.returned (.bool false)∧Below W.heap.size W w')) (HI:Hid (∀W v,Rd W 1 v yes.length (byteCells yes)→Calls Tryz.prog 222 #[v,.int .u8 94] W fun e w'=>e=.returned (.int .i64 (-1))∧W=w')) (HS:Hid (res=[91]++yes++[93])) :
  Calls Tryz.prog 188 #[.agg #[.int .u64 (X 0:Nat),.int .u64 (X 1:Nat),.int .u64 (X 2:Nat),.int .u64 (X 3:Nat)]] w fun e w'=>e=.returned (.string (mkS res))∧Below w.heap.size w w':=by
 have hlen2:(yes.length:Int)≤256:=by omega
 have H0:Hid (0 < yes.length):=hid (by rw [HL1.out];decide)
 go_enter Tryz.func188,Tryz.ntmps188
 go_wp2_with (first | (go_at_call 220;refine (HB.out _).mono ?_;rintro e w2 ⟨v,rfl,ho⟩;have HO1:=hid (start_below ho.below);have HX2:=hid (start_cells ho.below);obtain⟨c0,c1,c2,c3⟩:=ws_cells HX2.out;have HOw:=hid ho;obtain⟨g,cp,rfl⟩:=bel_at ho (Nat.pos_iff_ne_zero.1 H0.out);have h0:0 < yes.length:=H0.out;have e1:=HE1.out;have e2:((yes.length:Int)==1)=true:=(by rw [HL1.out];rfl);have cell:=bel_one ho HL1.out HX1.out;clear ho) | (go_at_call 221;refine (HH.out _).mono ?_;rintro e w3 ⟨rfl,hb⟩;have HO2:=hid (HO1.out.trans (hb.mono HO1.out.size));have hx3:=(hb.block _ (block_lt HX2.out)).trans HX2.out;have HX3:=hid hx3;obtain⟨d0,d1,d2,d3⟩:=ws_cells hx3;have HOw3:=hid (HOw.out.call hb);have hcv3:=bel_conv HOw3.out;clear hb hx3) | (go_at_call 222;refine (HI.out _ _ (Rd.of_own HOw3.out.own)).mono ?_;rintro e w6 ⟨rfl,rfl⟩))
 go_ret
 exact⟨ret_str (by rw [HS.out,show (⟨#[91]⟩:ByteArray)=mkS [91] from rfl,show (⟨#[93]⟩:ByteArray)=mkS [93] from rfl,mk_app,mk_app]),HO2.out⟩
theorem so_showP (X:Ws) (p:UInt8→Bool) (w:World) (h:HasP X p) :
  Calls Tryz.prog 188 #[.agg #[.int .u64 (X 0:Nat),.int .u64 (X 1:Nat),.int .u64 (X 2:Nat),.int .u64 (X 3:Nat)]] w fun e w'=>e=.returned (.string (mkS (shownP p)))∧Below w.heap.size w w':=by
 obtain⟨hb1,hh1⟩:=show_calls X p h
 obtain⟨yes,hyes⟩:∃y,all256.filter p=y:=⟨_,rfl⟩
 obtain⟨no,hno⟩:∃y,all256.filter (fun b=>!p b)=y:=⟨_,rfl⟩
 have hle:yes.length≤256:=by rw [←hyes,←all_len];exact List.length_filter_le _ _
 have hnle:no.length≤256:=by rw [←hno,←all_len];exact List.length_filter_le _ _
 have hfull:yes.length=256↔no=[]:=by rw [←hno,←hyes,←filter_full,all_len]
 have hnd:yes.Nodup:=by rw [←hyes];exact all_nodup.filter _
 have hsh:shownP p=if no=[] then [46] else if yes.length=1∧yes≠[46]∧yes≠[91] then yes else if p 93=true then [91,94]++no++[93] else [91]++yes.filter (fun b=>b.toNat != 94)++(if yes.contains 94=true then [94] else [])++[93]:=by
  rw [←hno,←hyes];rfl
 rw [hyes] at hb1
 have hbn:∀Y:Ws,HasP Y (fun b=>!p b)→∀W,Calls Tryz.prog 220 #[.agg #[.int .u64 (Y 0:Nat),.int .u64 (Y 1:Nat),.int .u64 (Y 2:Nat),.int .u64 (Y 3:Nat)]] W fun e w'=>∃v,e=.returned v∧Own W w' 5 1 v no.length (byteCells no):=fun Y hY W=>by
  have:=so_bytesC Y _ W hY
  rwa [hno] at this
 have hmk:(mkS no).size≤256:=by rw [mkS_size];exact hnle
 have hmk2:(mkS yes).size≤256:=by rw [mkS_size];exact hle
 generalize shownP p=res at hsh ⊢
 by_cases c1:no=[]
 ·rw [if_pos c1] at hsh
  exact show_all X p w yes no res (hid h) hle hmk hmk2 (hid hb1) (hfull.2 c1) (hid hsh)
 rw [if_neg c1] at hsh
 have hn256:yes.length≠256:=fun e=>c1 (hfull.1 e)
 have HE1:Hid (((yes.length:Int)==256)=false):=hid (by rw [beq_eq_false_iff_ne];omega)
 by_cases c2:yes.length=1∧yes≠[46]∧yes≠[91]
 ·rw [if_pos c2] at hsh
  obtain⟨hl1,hn1,hn2⟩:=c2
  obtain⟨x,hx⟩:=List.length_eq_one_iff.1 hl1
  have e3:((x.toNat:Int)==46)=false:=by
   rw [beq_eq_false_iff_ne];intro e
   exact hn1 (by rw [hx];congr 1;rw [←UInt8.toNat_inj];show x.toNat=46;omega)
  have e4:((x.toNat:Int)==91)=false:=by
   rw [beq_eq_false_iff_ne];intro e
   exact hn2 (by rw [hx];congr 1;rw [←UInt8.toNat_inj];show x.toNat=91;omega)
  exact show_one X p w yes no res (hid h) hle hmk hmk2 (hid hb1) HE1 x (hid hl1) (hid hx) e3 e4 (hid hsh)
 rw [if_neg c2] at hsh
 have hw:yes.length≠1∨(yes.length=1∧yes=[46])∨(yes.length=1∧yes=[91]):=by
  by_cases a:yes.length=1
  ·by_cases b:yes=[46]
   ·exact .inr (.inl ⟨a,b⟩)
   by_cases c:yes=[91]
   ·exact .inr (.inr ⟨a,c⟩)
   exact absurd ⟨a,b,c⟩ c2
  exact .inl a
 by_cases c3:p 93=true
 ·rw [if_pos c3] at hsh
  rw [c3] at hh1
  rcases hw with a | ⟨a,b⟩ | ⟨a,b⟩
  ·exact show_notN X p w yes no res (hid h) hle hmk hmk2 (hid hb1) HE1 a (hid hh1) (hid hbn) (hid hsh)
  ·exact show_not46 X p w yes no res (hid h) hle hmk hmk2 (hid hb1) HE1 (hid a) (hid b) (hid hh1) (hid hbn) (hid hsh)
  exact show_not91 X p w yes no res (hid h) hle hmk hmk2 (hid hb1) HE1 (hid a) (hid b) (hid hh1) (hid hbn) (hid hsh)
 rw [if_neg c3] at hsh
 rw [Bool.not_eq_true] at c3
 rw [c3] at hh1
 by_cases c4:yes.contains 94=true
 ·rw [if_pos c4] at hsh
  obtain⟨k,hk,hke,hix⟩:=ixB_some c4
  have hr:yes.take k++yes.drop (k+1)=yes.filter (fun b=>b.toNat != 94):=cut_byte hnd hk 94 hke
  have HI:Hid (∀W v,Rd W 1 v yes.length (byteCells yes)→Calls Tryz.prog 222 #[v,.int .u8 94] W fun e w'=>e=.returned (.int .i64 (k:Int))∧W=w'):=hid (fun W v h=>by
   have:=so_IndexB v yes 94 W h (by omega)
   rwa [hix] at this)
  obtain⟨r,hrr⟩:∃r,yes.filter (fun b=>b.toNat != 94)=r:=⟨_,rfl⟩
  have HRL:Hid (r.length≤256):=hid (by rw [←hrr];exact Nat.le_trans (List.length_filter_le _ _) hle)
  have HD:Hid (∀w0 W g cap,Own w0 W 5 1 (.slice (some ⟨g,0,none⟩) yes.length cap) yes.length (byteCells yes)→Calls Tryz.prog 223 #[.slice (some ⟨g,0,none⟩) yes.length cap,.int .i64 (k:Int),.int .i64 ((k:Int)+1)] W (DelP w0 g cap r)):=hid (fun w0 W g cap h=>by
   have:=so_DeleteB w0 W g cap yes k h hk (by omega)
   rwa [hr,hrr] at this)
  rw [hrr] at hsh
  have hs2:res=[91]++(r++[94])++[93]:=by rw [hsh];simp
  rcases hw with a | ⟨a,b⟩ | ⟨a,b⟩
  ·exact show_cutN X p w yes no res (hid h) hle hmk hmk2 (hid hb1) HE1 a (hid hh1) k hk r HRL HD HI (hid hs2)
  ·exact show_cut46 X p w yes no res (hid h) hle hmk hmk2 (hid hb1) HE1 (hid a) (hid b) (hid hh1) k hk r HRL HD HI (hid hs2)
  exact show_cut91 X p w yes no res (hid h) hle hmk hmk2 (hid hb1) HE1 (hid a) (hid b) (hid hh1) k hk r HRL HD HI (hid hs2)
 rw [if_neg c4] at hsh
 rw [Bool.not_eq_true] at c4
 have HI:Hid (∀W v,Rd W 1 v yes.length (byteCells yes)→Calls Tryz.prog 222 #[v,.int .u8 94] W fun e w'=>e=.returned (.int .i64 (-1))∧W=w'):=hid (fun W v h=>by
  have:=so_IndexB v yes 94 W h (by omega)
  rwa [ixB_none c4] at this)
 rw [filter_none c4,List.append_nil] at hsh
 rcases hw with a | ⟨a,b⟩ | ⟨a,b⟩
 ·exact show_yesN X p w yes no res (hid h) hle hmk hmk2 (hid hb1) HE1 a (hid hh1) HI (hid hsh)
 ·exact show_yes46 X p w yes no res (hid h) hle hmk hmk2 (hid hb1) HE1 (hid a) (hid b) (hid hh1) HI (hid hsh)
 exact show_yes91 X p w yes no res (hid h) hle hmk hmk2 (hid hb1) HE1 (hid a) (hid b) (hid hh1) HI (hid hsh)
theorem shown_len (p:UInt8→Bool):(shownP p).length≤260:=by
 have h1:(all256.filter p).length≤256:=by rw [←all_len];exact List.length_filter_le _ _
 have h2:(all256.filter (fun b=>!p b)).length≤256:=by rw [←all_len];exact List.length_filter_le _ _
 have h3:((all256.filter p).filter (fun b=>b.toNat != 94)).length≤(all256.filter p).length:=List.length_filter_le _ _
 simp only [shownP]
 split
 ·simp
 split
 ·omega
 split
 ·simp;omega
 split<;>simp only [List.length_append,List.length_cons,List.length_nil]<;>omega
theorem show_step (ts:List (List UInt8)) (k:Nat) (hk:k < ts.length):(ts.take (k+1)).flatMap shownB=(ts.take k).flatMap shownB++shownP (admB ts[k]):=by
 rw [List.take_succ_eq_append_getElem hk,List.flatMap_append]
 simp [shownB_eq]
def PatR (w:World) (v:Value) (ts:List (List UInt8)):Prop:=∃Xs,PatW Xs ts∧Rd w 4 v ts.length (wsCells Xs)
theorem PatR.keep {w w':World} {v:Value} {ts:List (List UInt8)} (h:PatR w v ts) (hb:Below w.heap.size w w'):PatR w' v ts:=by
 obtain⟨Xs,h1,h2⟩:=h
 exact⟨Xs,h1,h2.keep hb⟩
theorem ws_at:∀(Xs:List Ws) (k:Nat) (hk:k < Xs.length) (j:Nat),j < 4→(wsCells Xs)[k*4+j]?=some (.int .u64 ((Xs[k] j:Nat):Int))
 | [],_,hk,_,_=>absurd hk (Nat.not_lt_zero _)
 | X::r,0,_,j,hj=>by
   show ([Value.int .u64 (X 0:Nat),.int .u64 (X 1:Nat),.int .u64 (X 2:Nat),.int .u64 (X 3:Nat)]++wsCells r)[0*4+j]?=_
   rw [Nat.zero_mul,Nat.zero_add,List.getElem?_append_left (by simpa using hj)]
   rcases j with _ | _ | _ | _ | j
   ·rfl
   ·rfl
   ·rfl
   ·rfl
   ·omega
 | X::r,k+1,hk,j,hj=>by
   show ([Value.int .u64 (X 0:Nat),.int .u64 (X 1:Nat),.int .u64 (X 2:Nat),.int .u64 (X 3:Nat)]++wsCells r)[(k+1)*4+j]?=_
   rw [List.getElem?_append_right (by simp;omega)]
   have:=ws_at r k (by simpa using hk) j hj
   simp only [List.length_cons,List.length_nil,List.getElem_cons_succ]
   rw [←this];congr 1;omega
theorem start_below' {w w2:World} {o:Obj} {B:Nat} (h:Below (w.alloc o).heap.size (w.alloc o) w2) (hB:B≤w.heap.size):Below B w w2:=((Below.refl _ _).alloc hB _).trans (h.mono (by simp;omega))
theorem so_ShowP (v:Value) (ts:List (List UInt8)) (w:World) (h:PatR w v ts) (hn:ts.length≤4096) :
  Calls Tryz.prog 153 #[.agg #[v]] w fun e w'=>e=.returned (.string (mkS (condShow ts)))∧Below w.heap.size w w':=by
 obtain⟨Xs,hP,h1,A,cp,rfl,hcap,hs⟩:=h
 have HP:=hid hP
 have HS:=hid hs
 clear hP hs h1
 by_cases h0:ts=[]
 ·have HC:Hid (condShow ts=[46]):=hid (by rw [condShow,if_pos h0])
  have hl:ts.length=0:=by rw [h0];rfl
  have e0:((ts.length:Int)==0)=true:=by rw [hl];rfl
  clear h0 hl
  go_enter Tryz.func153,Tryz.ntmps153
  go_wp2_with fail
  go_ret
  exact⟨ret_str (by rw [HC.out];rfl),(Below.refl _ _).alloc (Nat.le_refl _) _⟩
 have HC:Hid (condShow ts=ts.flatMap shownB):=hid (by rw [condShow,if_neg h0])
 have hl:ts.length≠0:=fun e=>h0 (List.eq_nil_of_length_eq_zero e)
 have e0:((ts.length:Int)==0)=false:=by rw [beq_eq_false_iff_ne];omega
 clear h0
 obtain⟨b,off,rfl,hc⟩:=HS.out.resolve_left hl
 have HCl:=hid hc
 clear hc HS
 go_enter Tryz.func153,Tryz.ntmps153
 go_wp2_with fail
 obtain⟨w1,hw1⟩:∃W,w.alloc (.cells #[.slice (some ⟨b,off,none⟩) ts.length cp] 246)=W:=⟨_,rfl⟩
 have HB1:Hid (Below w.heap.size w w1):=hid (by rw [←hw1];exact (Below.refl _ _).alloc (Nat.le_refl _) _)
 have hsz1:w.heap.size < w1.heap.size:=by rw [←hw1];simp
 rw [hw1]
 clear hw1
 go_loopw [3,5,13] (fun s _ i wr=>∃k:Nat,k≤ts.length∧i=.int .i64 k∧s=.string (mkS ((ts.take k).flatMap shownB))∧((ts.take k).flatMap shownB).length≤260*k∧Below w1.heap.size w1 wr) (fun _ _ i _=>ts.length - (intOf i).toNat)
 case atStart=>exact⟨0,Nat.zero_le _,rfl,rfl,Nat.zero_le _,Below.refl _ _⟩
 case round =>
 obtain⟨k,hk,rfl,rfl,hlen,hb⟩:=hrel
 have HB:=hid hb
 clear hb
 by_cases hlt:k < ts.length
 ·have hX:k < Xs.length:=by rw [HP.out.1];exact hlt
  have HH:Hid (HasP Xs[k] (admB ts[k])):=hid (HP.out.2 k _ _ (List.getElem?_eq_getElem hX) (List.getElem?_eq_getElem hlt))
  obtain⟨X,hXX⟩:∃X,Xs[k]=X:=⟨_,rfl⟩
  have hcell:∀j,j < 4→wr.cell? ⟨b,off+(k*4+j),none⟩=some (.int .u64 ((X j:Nat):Int)):=fun j hj=>by
   have h2:=HCl.out (k*4+j) _ (ws_at Xs k hX j hj)
   rw [hXX] at h2
   exact (HB.out.cell (Nat.lt_of_lt_of_le (block_lt_of_cell? w _ h2) (Nat.le_of_lt hsz1))).trans ((HB1.out.cell (block_lt_of_cell? w _ h2)).trans h2)
  have c0:wr.cell? ⟨b,off+k*4,none⟩=some (.int .u64 ((X 0:Nat):Int)):=hcell 0 (by omega)
  have c1:wr.cell? ⟨b,off+k*4+1,none⟩=some (.int .u64 ((X 1:Nat):Int)):=hcell 1 (by omega)
  have c2:wr.cell? ⟨b,off+k*4+2,none⟩=some (.int .u64 ((X 2:Nat):Int)):=hcell 2 (by omega)
  have c3:wr.cell? ⟨b,off+k*4+3,none⟩=some (.int .u64 ((X 3:Nat):Int)):=hcell 3 (by omega)
  rw [hXX] at HH
  have HST:=hid (show_step ts k hlt)
  obtain⟨s1,hs1⟩:∃y,(ts.take k).flatMap shownB=y:=⟨_,rfl⟩
  obtain⟨s2,hs2⟩:∃y,shownP (admB ts[k])=y:=⟨_,rfl⟩
  have hl2:s2.length≤260:=by rw [←hs2];exact shown_len _
  have HF:Hid (∀W,Calls Tryz.prog 188 #[.agg #[.int .u64 (X 0:Nat),.int .u64 (X 1:Nat),.int .u64 (X 2:Nat),.int .u64 (X 3:Nat)]] W fun e w'=>e=.returned (.string (mkS s2))∧Below W.heap.size W w'):=hid (fun W=>by
   have:=so_showP X _ W HH.out
   rwa [hs2] at this)
  rw [hs1,hs2] at HST
  rw [hs1] at hlen ⊢
  have hz1:(mkS s1).size≤260*k:=by rw [mkS_size];exact hlen
  have hz2:(mkS s2).size≤260:=by rw [mkS_size];exact hl2
  clear hcell hXX hs2 hs1
  go_wp2_with (go_at_call 188;refine (HF.out _).mono ?_;rintro e w2 ⟨rfl,hb2⟩;have HB2:=hid (HB.out.trans (start_below' hb2 HB.out.size));clear hb2)
  go_roundw
  case rel=>exact⟨k+1,by omega,by go_num,by rw [HST.out,←mk_app],by rw [HST.out];simp;omega,HB2.out⟩
  case measure=>simp [intOf];omega
 obtain rfl:k=ts.length:=by omega
 have HT:Hid ((ts.take ts.length).flatMap shownB=ts.flatMap shownB):=hid (by rw [List.take_length])
 go_wp2_with fail
 go_ret
 exact⟨ret_str (by rw [HC.out,HT.out]),HB1.out.trans (HB.out.mono (Nat.le_of_lt hsz1))⟩
def RuleP (R:Except Int Rl) (line:Int) (w:World) (e:Ending) (w':World):Prop :=
 Below w.heap.size w w'∧match R with
  | .ok r=>∃nv,e=.returned (.agg #[.int .i64 r.kind,.int .u16 r.flag,.bool r.cross,.string r.strip,.string r.add,.string r.cond,nv])∧FN w.heap.size w' nv r.next
  | .error c=>e=.panicked [flt line c]
def ruleZ:Array Value:=#[.int .i64 0,.int .u16 0,.bool false,.string ⟨#[]⟩,.string ⟨#[]⟩,.string ⟨#[]⟩,.slice none 0 0]
def ruleX (c:Cl) (strip add cond:ByteArray) (nv:Value):Array Value:=#[.int .i64 c.kind,.int .u16 c.flag,.bool c.cross,.string strip,.string add,.string cond,nv]
structure XS (w:World) (c:Cl) (strip add cond:ByteArray) (nv:Value) (W:World):Prop where
 below:Below w.heap.size w W
 box:W.heap[w.heap.size]?=some (.cells #[.int .u16 c.flag,.int .i64 c.kind,.bool c.cross,.int .i64 c.first,.int .i64 c.count] 99 (0,0))
 res:W.heap[w.heap.size+1]?=some (.cells ruleZ 31 (0,0))
 x:W.heap[w.heap.size+2]?=some (.cells (ruleX c strip add cond nv) 31 (0,0))
theorem XS.later {w W W':World} {c:Cl} {strip add cond:ByteArray} {nv:Value} (h:XS w c strip add cond nv W) (hb:Below W.heap.size W W'):XS w c strip add cond nv W' :=
 ⟨h.below.trans (hb.mono h.below.size),(hb.block _ (block_lt h.box)).trans h.box,(hb.block _ (block_lt h.res)).trans h.res,(hb.block _ (block_lt h.x)).trans h.x⟩
theorem XS.size {w W:World} {c:Cl} {strip add cond:ByteArray} {nv:Value} (h:XS w c strip add cond nv W):w.heap.size+2 < W.heap.size:=block_lt h.x
theorem XS.cells {w W:World} {c:Cl} {strip add cond:ByteArray} {nv:Value} (h:XS w c strip add cond nv W) :
  W.cell? ⟨w.heap.size,0,none⟩=some (.int .u16 c.flag)∧W.cell? ⟨w.heap.size,1,none⟩=some (.int .i64 c.kind)∧W.cell? ⟨w.heap.size,2,none⟩=some (.bool c.cross) :=
 ⟨by rw [cell_of_heap h.box];rfl,by rw [cell_of_heap h.box];rfl,by rw [cell_of_heap h.box];rfl⟩
theorem XS.xat {w W:World} {c:Cl} {strip add cond:ByteArray} {nv:Value} (h:XS w c strip add cond nv W) (j:Nat) (hj:j < 7):∃u,W.cell? ⟨w.heap.size+2,j,none⟩=some u∧W.frozen? ⟨w.heap.size+2,j,none⟩=false:=by
 refine⟨(ruleX c strip add cond nv)[j]'hj,?_,frozen_of_heap h.x j⟩
 rw [cell_of_heap h.x]
 exact Array.getElem?_eq_getElem hj
theorem XS.setStrip {w W:World} {c:Cl} {strip add cond s:ByteArray} {nv:Value} (h:XS w c strip add cond nv W):XS w c s add cond nv (W.setCell ⟨w.heap.size+2,3,none⟩ (.string s)) :=
 ⟨h.below.setCell (by simp) _,(set_kept1 _ _ _ _).at h.box (by simp),(set_kept1 _ _ _ _).at h.res (by simp),heap_setCell_same _ _ _ _ _ _ h.x⟩
theorem XS.setAdd {w W:World} {c:Cl} {strip add cond s:ByteArray} {nv:Value} (h:XS w c strip add cond nv W):XS w c strip s cond nv (W.setCell ⟨w.heap.size+2,4,none⟩ (.string s)) :=
 ⟨h.below.setCell (by simp) _,(set_kept1 _ _ _ _).at h.box (by simp),(set_kept1 _ _ _ _).at h.res (by simp),heap_setCell_same _ _ _ _ _ _ h.x⟩
theorem XS.setCond {w W:World} {c:Cl} {strip add cond s:ByteArray} {nv:Value} (h:XS w c strip add cond nv W):XS w c strip add s nv (W.setCell ⟨w.heap.size+2,5,none⟩ (.string s)) :=
 ⟨h.below.setCell (by simp) _,(set_kept1 _ _ _ _).at h.box (by simp),(set_kept1 _ _ _ _).at h.res (by simp),heap_setCell_same _ _ _ _ _ _ h.x⟩
theorem XS.setNext {w W:World} {c:Cl} {strip add cond:ByteArray} {nv v:Value} (h:XS w c strip add cond nv W):XS w c strip add cond v (W.setCell ⟨w.heap.size+2,6,none⟩ v) :=
 ⟨h.below.setCell (by simp) _,(set_kept1 _ _ _ _).at h.box (by simp),(set_kept1 _ _ _ _).at h.res (by simp),heap_setCell_same _ _ _ _ _ _ h.x⟩
theorem rule_len {F:Fl} {c:Cl} {line:Int} {row:List ByteArray} (h:row.length≠4∧row.length≠5):ruleR F c line row=.error 111:=by rw [ruleR,if_pos h]
theorem rule_strip {F:Fl} {c:Cl} {line e:Int} {row:List ByteArray} (h:¬(row.length≠4∧row.length≠5)) (h2:pieceR true (fieldAt row 2)=.error e):ruleR F c line row=.error e:=by rw [ruleR,if_neg h,h2]
def ruleA (F:Fl) (c:Cl) (line:Int) (row:List ByteArray) (strip:ByteArray):Except Int Rl:=match wordR (fieldAt row 3).data.toList with
 | (w,rest,cut,e)=>if e≠0 then .error e else match addR w with
   | .error e=>.error e
   | .ok add=>match nextR F c.kind rest cut with
     | .error e=>.error e
     | .ok next=>match condOf row with
       | .error e=>.error e
       | .ok cond=>.ok ⟨c.kind,c.flag,c.cross,strip,add,cond,next,line⟩
theorem rule_ok {F:Fl} {c:Cl} {line:Int} {row:List ByteArray} {s:ByteArray} (h:¬(row.length≠4∧row.length≠5)) (h2:pieceR true (fieldAt row 2)=.ok s):ruleR F c line row=ruleA F c line row s:=by rw [ruleR,if_neg h,h2];rfl
def ruleB (F:Fl) (c:Cl) (line:Int) (row:List ByteArray) (strip add:ByteArray) (rest:List UInt8) (cut:Bool):Except Int Rl:=match nextR F c.kind rest cut with
 | .error e=>.error e
 | .ok next=>match condOf row with
   | .error e=>.error e
   | .ok cond=>.ok ⟨c.kind,c.flag,c.cross,strip,add,cond,next,line⟩
def ruleC (c:Cl) (line:Int) (row:List ByteArray) (strip add:ByteArray) (next:List Int):Except Int Rl:=match condOf row with
 | .error e=>.error e
 | .ok cond=>.ok ⟨c.kind,c.flag,c.cross,strip,add,cond,next,line⟩
end Go.Proofs.YtfkblpjfknfgbaaGreatDoor
