/-
 Parts of the proof: DT5, DT8.
-/
import Derived.BigQuiet
import Derived.WalkLawsBesides
import Derived.Test.YtfkblpjfknfgbaaGreatDoorRows
import Derived.Test.YtfkblpjfknfgbaaGreatDoorS16
set_option linter.unusedVariables false
set_option linter.unusedSimpArgs false
set_option maxHeartbeats 8000000
set_option maxRecDepth 100000
open Go.Maps Go.RowKit
open Go.Lib (hid cell_of_heap)
open Go.World (block_lt_of_cell?)
namespace Go.Proofs.YtfkblpjfknfgbaaGreatDoor
theorem so_tEntryNil (n:Int) (w:World):Calls Tryz.prog 13 #[.pointer none,.int .i64 n] w (EntT none w):=by
 have HX1:=hid (heap_alloc_new w (.cells #[.string ⟨#[]⟩,.slice none 0 0] 35))
 have HB1:Hid (Below w.heap.size w (w.alloc (.cells #[.string ⟨#[]⟩,.slice none 0 0] 35))):=hid ((Below.refl _ _).alloc (Nat.le_refl _) _)
 go_enter Tryz.func13,Tryz.ntmps13
 go_wp2_with fail
 refine bodyPost_ret (v:=.tuple #[.agg #[.string ⟨#[]⟩,.slice none 0 0],.bool false]) (by simp [results,Tryz.results13,go_sem];try rfl) rfl ?_
 unfold EntT
 try rw [setCell_id HX1.out rfl,setCell_id HX1.out rfl]
 exact⟨_,rfl,FN.nil _ _ _ _,HB1.out⟩
theorem so_tRuleNil (n:Int) (w:World):Calls Tryz.prog 12 #[.pointer none,.int .i64 n] w (RulT none w):=by
 have HX1:=hid (heap_alloc_new w (.cells #[.int .i64 0,.int .u16 0,.bool false,.string ⟨#[]⟩,.string ⟨#[]⟩,.string ⟨#[]⟩,.slice none 0 0] 31))
 have HB1:Hid (Below w.heap.size w (w.alloc (.cells #[.int .i64 0,.int .u16 0,.bool false,.string ⟨#[]⟩,.string ⟨#[]⟩,.string ⟨#[]⟩,.slice none 0 0] 31))):=hid ((Below.refl _ _).alloc (Nat.le_refl _) _)
 go_enter Tryz.func12,Tryz.ntmps12
 go_wp2_with fail
 refine bodyPost_ret (v:=.tuple #[.agg #[.int .i64 0,.int .u16 0,.bool false,.string ⟨#[]⟩,.string ⟨#[]⟩,.string ⟨#[]⟩,.slice none 0 0],.bool false]) (by simp [results,Tryz.results12,go_sem];try rfl) rfl ?_
 unfold RulT
 try rw [setCell_id HX1.out rfl,setCell_id HX1.out rfl,setCell_id HX1.out rfl,setCell_id HX1.out rfl,setCell_id HX1.out rfl,setCell_id HX1.out rfl,setCell_id HX1.out rfl]
 exact⟨_,rfl,FN.nil _ _ _ _,HB1.out⟩
theorem so_flagsAre (v u:Value) (zs:List Int) (w:World) (h:FS w v zs) (hu:IS w u zs) (hb:∀x∈zs,0≤x∧x≤65535) (hbig:zs.length≤1048576) :
  Calls Tryz.prog 15 #[v,u] w fun e w'=>e=.returned (.bool true)∧∃n,w'=w.drewN n:=by
 obtain⟨p,c,rfl,hcap,hs⟩:=h
 obtain⟨p2,c2,rfl,hcap2,hs2⟩:=hu
 have hA:=hid hs
 have hB:=hid hs2
 have hBd:=hid hb
 clear hs hs2 hb
 go_enter Tryz.func15,Tryz.ntmps15
 go_wp2_with fail
 go_loopw [5,13] (fun _ i wr=>∃k m:Nat,k≤zs.length∧i=.int .i64 k∧wr=w.drewN m) (fun _ i _=>zs.length - (intOf i).toNat)
 case atStart=>exact⟨0,0,Nat.zero_le _,rfl,rfl⟩
 case round =>
 obtain⟨k,m,hk,rfl,rfl⟩:=hrel
 by_cases hlt:k < zs.length
 ·obtain⟨b,off,rfl,hc⟩:=hA.out.resolve_left (by omega)
  obtain⟨b2,off2,rfl,hc2⟩:=hB.out.resolve_left (by omega)
  have c1:=hc k hlt
  have c2':=hc2 k hlt
  clear hc hc2
  have he:zs.getD k 0=zs[k]:=by simp [List.getD,hlt]
  obtain⟨x0,x1⟩:=hBd.out zs[k] (List.getElem_mem hlt)
  rw [he] at c1 c2'
  generalize zs[k]=x at *
  have hwx:IntKind.i64.wrap x=x:=by rw [IntKind.wrap_i64];omega
  clear he
  go_wp2_with fail
  go_quiet (fail)
  go_wp2_with fail
  go_roundw
  case rel=>exact⟨k+1,_,by omega,by go_num,rfl⟩
  case measure=>simp [intOf];omega
 obtain rfl:k=zs.length:=by omega
 go_wp2_with fail
 go_ret
 exact⟨rfl,_,rfl⟩
theorem so_ruleIs (r:Rl) (nv nu:Value) (w:World) (h:FS w nv r.next) (hu:IS w nu r.next) (hr:0≤r.flag∧r.flag≤65535) (hb:∀x∈r.next,0≤x∧x≤65535) (hbig:r.next.length≤1048576) :
  Calls Tryz.prog 14 #[rlV r nv,.agg (qrl r nu)] w fun e w'=>e=.returned (.bool true)∧Below w.heap.size w w':=by
 have HS:Hid (∀W,Below w.heap.size w W→Calls Tryz.prog 15 #[nv,nu] W fun e w'=>e=.returned (.bool true)∧∃n,w'=W.drewN n):=hid (fun W hW=>so_flagsAre nv nu r.next W (h.keep hW) (hu.keep hW) hb hbig)
 obtain⟨p,c,rfl,-⟩:=h
 obtain⟨p2,c2,rfl,-⟩:=hu
 obtain⟨k,fl,cr,st,ad,cd,nx,ln⟩:=r
 unfold rlV qrl
 dsimp only at *
 obtain⟨x0,x1⟩:=hr
 have hwx:IntKind.i64.wrap fl=fl:=by rw [IntKind.wrap_i64];omega
 clear hb
 go_enter Tryz.func14,Tryz.ntmps14
 go_wp2_with (go_at_call 15;refine (HS.out _ (((Below.refl _ _).alloc (Nat.le_refl _) _).alloc (by simp) _)).mono ?_;rintro e w5 ⟨rfl,n,hw5⟩;have HW5:=hid hw5;clear hw5)
 go_ret
 exact⟨by simp,by rw [HW5.out];exact below_drewN (((Below.refl _ _).alloc (Nat.le_refl _) _).alloc (by simp) _) _⟩
def LtP (r:Except (Int×Int×Int) (Fl×List En)) (w:World) (e:Ending) (w':World):Prop:=Below w.heap.size w w'∧match r with
 | .error _=>e=.returned (.tuple #[.pointer none,.pointer none,.bool true])
 | .ok p=>∃tb ub,e=.returned (.tuple #[.pointer (some ⟨tb,0,none⟩),.pointer (some ⟨ub,0,none⟩),.bool true])∧TabAt w' tb p.1 p.2∧QTabAt w' ub p.1 p.2∧(FlOk p.1∧TbInv p.1∧EsOk p.2)∧w.heap.size≤tb∧w.heap.size≤ub
theorem so_lread13 (a d:ByteArray) (m0:Int) (w:World) (h0:0 < w.heap.size) (hm:w.cell? ⟨0,0,none⟩=some (.int .i64 m0)) :
  Calls Tryz.prog 10 #[.string a,.string d] w (LtP (tabR a.data.toList d.data.toList) w):=by
 have HR:=hid (so_tabRead a d m0 w h0 hm)
 have HQ:Hid (∀W,Calls Tryz.prog 39 #[.string a,.string d] W (QTabP (tabR a.data.toList d.data.toList) W)):=hid (fun W=>so_qtabRead a d W)
 unfold TabP at HR
 unfold QTabP at HQ
 unfold LtP
 clear h0 hm
 cases hr:tabR a.data.toList d.data.toList with
 | error p =>
  obtain⟨k,l,c⟩:=p
  rw [hr] at HR HQ
  dsimp only at HR HQ
  clear hr
  go_enter Tryz.func10,Tryz.ntmps10
  go_wp2_with fail
  refine HR.out.mono ?_
  rintro e w1 ⟨hb1,rfl⟩
  have HB1:=hid (hb1.alloc hb1.size (.cells #[.int .i64 k,.int .i64 l,.int .i64 c] 60))
  have HX1:=hid (heap_alloc_new w1 (.cells #[.int .i64 k,.int .i64 l,.int .i64 c] 60))
  clear hb1
  go_wp2_with fail
  refine (HQ.out _).mono ?_
  rintro e w2 ⟨hb2,rfl⟩
  have HB2:=hid (HB1.out.trans (hb2.mono HB1.out.size))
  have hx2:=(hb2.block _ (block_lt HX1.out)).trans HX1.out
  have hl2:=block_lt hx2
  have d0:=cell_of_heap hx2 0
  have d1:=cell_of_heap hx2 1
  have d2:=cell_of_heap hx2 2
  simp only [List.getElem?_toArray,List.getElem?_cons_zero,List.getElem?_cons_succ] at d0 d1 d2
  clear hb2 hx2
  go_wp2_with fail
  go_ret3
  exact⟨HB2.out.alloc HB2.out.size _,by simp⟩
 | ok p =>
  obtain⟨F,es⟩:=p
  rw [hr] at HR HQ
  dsimp only at HR HQ
  clear hr
  go_enter Tryz.func10,Tryz.ntmps10
  go_wp2_with fail
  refine HR.out.mono ?_
  rintro e w1 ⟨hb1,tb,rfl,ht,hok,htb⟩
  have HB1:=hid (hb1.alloc hb1.size (.cells #[.int .i64 0,.int .i64 0,.int .i64 0] 60))
  have HX1:=hid (heap_alloc_new w1 (.cells #[.int .i64 0,.int .i64 0,.int .i64 0] 60))
  have HT1:=hid (ht.keep ((Below.refl _ _).alloc (Nat.le_refl _) (.cells #[.int .i64 0,.int .i64 0,.int .i64 0] 60)))
  have HOk:=hid hok
  have HTb:=hid htb
  clear hb1 ht hok htb
  go_wp2_with fail
  refine (HQ.out _).mono ?_
  rintro e w2 ⟨hb2,ub,rfl,hq,hub⟩
  have HB2:=hid (HB1.out.trans (hb2.mono HB1.out.size))
  have HT2:=hid (HT1.out.keep hb2)
  have HQ2:=hid hq
  have HUb:Hid (w.heap.size≤ub):=hid (Nat.le_trans HB1.out.size hub)
  have hx2:=(hb2.block _ (block_lt HX1.out)).trans HX1.out
  have hl2:=block_lt hx2
  have d0:=cell_of_heap hx2 0
  have d1:=cell_of_heap hx2 1
  have d2:=cell_of_heap hx2 2
  simp only [List.getElem?_toArray,List.getElem?_cons_zero,List.getElem?_cons_succ] at d0 d1 d2
  clear hb2 hx2 hq hub
  go_wp2_with fail
  go_ret3
  have hba:=(Below.refl w2.heap.size w2).alloc (Nat.le_refl _) (.cells #[.int .i64 0,.int .i64 0,.int .i64 0] 103)
  exact⟨HB2.out.alloc HB2.out.size _,tb,ub,by simp,HT2.out.keep hba,HQ2.out.keep hba,HOk.out,HTb.out,HUb.out⟩
theorem tb_flag {F:Fl} (hok:FlOk F) (ht:TbInv F) {n:Nat} (hn:n < F.rls.length):0≤F.rls[n].flag∧F.rls[n].flag≤65535:=by
 obtain⟨c,hc,h1,h2⟩:=ht.1.2 n hn
 have hm:=List.mem_of_find?_eq_some hc
 have hf:c.flag=F.rls[n].flag:=by simpa using List.find?_some hc
 have:=hok.flags c hm
 omega
theorem ruleAt_is {F:Fl} {n:Int} {N:Nat} (hN:F.rls.length=N):(ruleAt F n).isSome=(decide (0≤n)&&decide (n < (N:Int))):=by
 subst hN
 by_cases hin:0≤n∧n < (F.rls.length:Int)
 ·obtain⟨k,rfl⟩:∃k:Nat,n=k:=⟨n.toNat,by omega⟩
  rw [ruleAt_in (by omega),decide_eq_true hin.1,decide_eq_true hin.2];rfl
 rw [ruleAt_out hin]
 by_cases h0:0≤n
 ·rw [decide_eq_false (show ¬n < (F.rls.length:Int) from fun h=>hin ⟨h0,h⟩)];simp
 rw [decide_eq_false h0];rfl
theorem entryAt_is {es:List En} {n:Int} {N:Nat} (hN:es.length=N):(entryAt es n).isSome=(decide (0≤n)&&decide (n < (N:Int))):=by
 subst hN
 by_cases hin:0≤n∧n < (es.length:Int)
 ·obtain⟨k,rfl⟩:∃k:Nat,n=k:=⟨n.toNat,by omega⟩
  rw [entryAt_in (by omega),decide_eq_true hin.1,decide_eq_true hin.2];rfl
 rw [entryAt_out hin]
 by_cases h0:0≤n
 ·rw [decide_eq_false (show ¬n < (es.length:Int) from fun h=>hin ⟨h0,h⟩)];simp
 rw [decide_eq_false h0];rfl
theorem tablesReads_walk (a d:ByteArray) (n:Int) (m0:Int) (w:World) (h0:0 < w.heap.size) (hm:w.cell? ⟨0,0,none⟩=some (.int .i64 m0)) :
  Calls Tryz.prog 3 #[.string a,.string d,.int .i64 n] w fun e w'=>e=.returned (.bool true)∧Below w.heap.size w w':=by
 have HM:Hid (∀W,Below w.heap.size w W→0 < W.heap.size∧W.cell? ⟨0,0,none⟩=some (.int .i64 m0)):=hid (fun W hW=>⟨Nat.lt_of_lt_of_le h0 hW.size,(hW.cell (block_lt_of_cell? _ _ hm)).trans hm⟩)
 have HW:Hid (∀W,Below w.heap.size w W→Calls Tryz.prog 11 #[] W fun e w'=>e=.returned (.bool true)∧Below W.heap.size W w'):=hid (fun W hW=>so_twakes m0 W (HM.out W hW).1 (HM.out W hW).2)
 have HR:=hid (so_lread13 a d m0 w h0 hm)
 unfold LtP at HR
 clear h0 hm
 cases hr:tabR a.data.toList d.data.toList with
 | error p =>
  rw [hr] at HR
  dsimp only at HR
  have hru:=fun W=>so_tRuleNil n W
  have hen:=fun W=>so_tEntryNil n W
  unfold RulT ruleD rlV rl0 at hru
  unfold EntT entD at hen
  simp only [Option.getD_none,Option.isSome_none] at hru hen
  have HRu:=hid hru
  have HEn:=hid hen
  have HRi:Hid (∀W v,FS W v []→Calls Tryz.prog 14 #[.agg #[.int .i64 0,.int .u16 0,.bool false,.string ⟨#[]⟩,.string ⟨#[]⟩,.string ⟨#[]⟩,v],.agg #[.int .i64 0,.int .i64 0,.bool false,.string ⟨#[]⟩,.string ⟨#[]⟩,.string ⟨#[]⟩,.slice none 0 0,.int .i64 0]] W fun e w'=>e=.returned (.bool true)∧Below W.heap.size W w'):=hid (fun W v hv=>so_ruleIs rl0 v (.slice none 0 0) W hv (IS.nil _) (by decide) (fun x hx=>(List.not_mem_nil hx).elim) (by decide))
  clear hr hru hen
  go_enter Tryz.func3,Tryz.ntmps3
  go_upto_region 7 with (first
   | (go_at_call 10;refine HR.out.mono ?_;rintro e w1 ⟨hb1,rfl⟩;have HB1:=hid hb1;clear hb1)
   | (go_at_call 11;refine (HW.out _ HB1.out).mono ?_;rintro e w2 ⟨rfl,hb2⟩;have HB2:=hid (HB1.out.trans (hb2.mono HB1.out.size));clear hb2)
   | (go_at_call 12;refine (HRu.out _).mono ?_;rintro e w3 ⟨v3,rfl,hv3,hb3⟩;obtain⟨p3,c3,rfl⟩:∃p c,v3=.slice p 0 c:=(by obtain⟨p,c,hv,-⟩:=hv3;exact⟨p,c,hv⟩);have HB3:=hid ((HB2.out.trans (hb3.mono HB2.out.size)).alloc (HB2.out.trans (hb3.mono HB2.out.size)).size (.cells #[.int .i64 0,.int .u16 0,.bool false,.string ⟨#[]⟩,.string ⟨#[]⟩,.string ⟨#[]⟩,.slice p3 0 c3] 31));have HX3:=hid (heap_alloc_new w3 (.cells #[.int .i64 0,.int .u16 0,.bool false,.string ⟨#[]⟩,.string ⟨#[]⟩,.string ⟨#[]⟩,.slice p3 0 c3] 31));clear hv3 hb3)
   | (go_at_call 13;refine (HEn.out _).mono ?_;rintro e w4 ⟨v4,rfl,hv4,hb4⟩;obtain⟨p4,c4,rfl⟩:∃p c,v4=.slice p 0 c:=(by obtain⟨p,c,hv,-⟩:=hv4;exact⟨p,c,hv⟩);have HB4:=hid (HB3.out.trans (hb4.mono HB3.out.size));have HX4:=hid ((hb4.block _ (block_lt HX3.out)).trans HX3.out);clear hv4 hb4))
  have hx4:=HX4.out
  have hl4:=block_lt hx4
  have q0:=cell_of_heap hx4 0
  have q1:=cell_of_heap hx4 1
  have q2:=cell_of_heap hx4 2
  have q3:=cell_of_heap hx4 3
  have q4:=cell_of_heap hx4 4
  have q5:=cell_of_heap hx4 5
  have q6:=cell_of_heap hx4 6
  simp only [List.getElem?_toArray,List.getElem?_cons_zero,List.getElem?_cons_succ] at q0 q1 q2 q3 q4 q5 q6
  have HX5:=hid (heap_alloc_new w4 (.cells #[.string ⟨#[]⟩,.slice p4 0 c4] 35))
  have HB5:=hid (HB4.out.alloc HB4.out.size (.cells #[.string ⟨#[]⟩,.slice p4 0 c4] 35))
  clear hx4
  go_wp2_with (go_at_call 14;refine (HRi.out _ _ (FN.nil 0 _ p3 c3).fs).mono ?_;rintro e w6 ⟨rfl,hb6⟩;have HB6:=hid (HB5.out.trans (hb6.mono HB5.out.size));have hx6:=(hb6.block _ (block_lt HX5.out)).trans HX5.out;have x0:=cell_of_heap hx6 0;have x1:=cell_of_heap hx6 1;simp only [List.getElem?_toArray,List.getElem?_cons_zero,List.getElem?_cons_succ] at x0 x1;clear hb6 hx6)
  go_ret
  exact⟨by simp,HB6.out⟩
 | ok p =>
  obtain⟨F,es⟩:=p
  rw [hr] at HR
  dsimp only at HR
  clear hr
  go_enter Tryz.func3,Tryz.ntmps3
  go_upto_region 8 with (first
   | (go_at_call 10;refine HR.out.mono ?_;rintro e w1 ⟨hb1,tb,ub,rfl,ht,hq,hok,-,-⟩;have HB1:=hid hb1;have HT1:=hid ht;have HQ1:=hid hq;have HOk:=hid hok;clear hb1 ht hq hok)
   | (go_at_call 11;refine (HW.out _ HB1.out).mono ?_;rintro e w2 ⟨rfl,hb2⟩;have HB2:=hid (HB1.out.trans (hb2.mono HB1.out.size));have HT2:=hid (HT1.out.keep hb2);have HQ2:=hid (HQ1.out.keep hb2);clear hb2))
  have HRu:Hid (∀W i,Below w2.heap.size w2 W→Calls Tryz.prog 12 #[.pointer (some ⟨tb,0,none⟩),.int .i64 i] W (RulT (ruleAt F i) W)):=hid (fun W i hW=>so_tRule tb F es i W (HT2.out.keep hW) HOk.out.1)
  have HEn:Hid (∀W i,Below w2.heap.size w2 W→Calls Tryz.prog 13 #[.pointer (some ⟨tb,0,none⟩),.int .i64 i] W (EntT (entryAt es i) W)):=hid (fun W i hW=>so_tEntry tb F es i W (HT2.out.keep hW) HOk.out.2.2)
  obtain⟨rf,A,cp,rs,c0,c12,hrm,hrd,hri,-⟩:=HQ2.out.file
  obtain⟨A1,cp1,xs,c1,hx1,hxd,hxi⟩:=HQ2.out.ents
  have hrl0:rs.length=F.rls.length:=by rw [←hrm];simp
  have hxl0:xs.length=es.length:=by rw [←hx1,entAbs_len]
  have hrl:rs.length≤65536:=by have:=HOk.out.1.rls;omega
  have hxl:xs.length≤65536:=by have:=HOk.out.2.2.len;omega
  have HRd:=hid hrd
  have HXd:=hid hxd
  have HRi:=hid hri
  have HXi:=hid hxi
  have HRm:=hid hrm
  have HXm:=hid hx1
  obtain⟨N,hN⟩:∃N,rs.length=N:=⟨_,rfl⟩
  obtain⟨M,hM⟩:∃M,xs.length=M:=⟨_,rfl⟩
  rw [hN] at c12 hrl hrl0
  rw [hM] at c1 hxl hxl0
  have HN:=hid hN
  have HMm:=hid hM
  have HNF:Hid (F.rls.length=N):=hid hrl0.symm
  have HME:Hid (es.length=M):=hid hxl0.symm
  have hul:ub < w2.heap.size:=block_lt_of_cell? _ _ c0
  have hrfl:rf < w2.heap.size:=block_lt_of_cell? _ _ c12
  clear HR HW HM HT1 HQ1 HB1 hrm hx1 hrd hxd hri hxi hN hM hrl0 hxl0
  go_wp2_with fail
  go_loopw [14,15,16,17,83] (fun _ _ _ _ x wr=>∃k:Nat,k≤N∧x=.int .i64 k∧Hid (Below w2.heap.size w2 wr)) (fun _ _ _ _ x _=>N - (intOf x).toNat)
  case atStart=>exact⟨0,Nat.zero_le _,rfl,hid (Below.refl _ _)⟩
  case round =>
  obtain⟨k,hk,rfl,HBk⟩:=hrel
  by_cases hlt:k < N
  ·have hkr:k < rs.length:=by have:=HN.out;omega
   have hkF:k < F.rls.length:=by have:=HNF.out;omega
   obtain⟨-,A',cp',hv,hcap,hcells⟩:=HRd.out
   cases hv
   obtain⟨g,o,rfl,hc⟩:=hcells.resolve_left (by omega)
   obtain⟨q0,q1,q2,q3,q4,q5,q6,q7⟩:=qrls_at rs k hkr
   have key:∀j u,(qrls rs)[k*8+j]?=some u→wr.cell? ⟨g,o+k*8+j,none⟩=some u:=fun j u hj=>by
    have h:=hc _ _ hj
    rw [←Nat.add_assoc] at h
    exact (HBk.out.cell (block_lt_of_cell? _ _ h)).trans h
   have e0:=key 0 _ q0
   have e1:=key 1 _ q1
   have e2:=key 2 _ q2
   have e3:=key 3 _ q3
   have e4:=key 4 _ q4
   have e5:=key 5 _ q5
   have e6:=key 6 _ q6
   have e7:=key 7 _ q7
   rw [Nat.add_zero] at e0
   have hr1:F.rls[k]=rs[k].1:=by have h:=HRm.out;simp [←h]
   have hfl:=tb_flag HOk.out.1 HOk.out.2.1 hkF
   have hset:=next_set HOk.out.1 HOk.out.2.1 _ (List.getElem_mem hkF)
   have hru:=fun W=>HRu.out W (k:Int)
   simp only [ruleAt_in hkF,hr1] at hru
   have his:=(HRi.out _ (List.getElem_mem hkr)).keep HBk.out
   rw [hr1] at hfl hset
   obtain⟨x,hx⟩:∃x,rs[k]=x:=⟨_,rfl⟩
   obtain⟨⟨rk,rfg,rc,rst,rad,rco,zs,rli⟩,u⟩:=x
   rw [hx] at e0 e1 e2 e3 e4 e5 e6 e7 his hfl hset
   simp only [hx] at hru
   unfold RulT ruleD rlV at hru
   dsimp only [Option.getD_some,Option.isSome_some] at e0 e1 e2 e3 e4 e5 e6 e7 his hfl hset hru
   have HIs:=hid his
   obtain⟨pu,cu,rfl,-⟩:=his
   have HRk:=hid hru
   have HSet:=hid hset
   have hnk:(k:Int) < (N:Int):=by omega
   have HRI:Hid (∀W v,FS W v zs→IS W (.slice pu zs.length cu) zs→Calls Tryz.prog 14 #[.agg #[.int .i64 rk,.int .u16 rfg,.bool rc,.string rst,.string rad,.string rco,v],.agg #[.int .i64 rk,.int .i64 rfg,.bool rc,.string rst,.string rad,.string rco,.slice pu zs.length cu,.int .i64 rli]] W fun e w'=>e=.returned (.bool true)∧Below W.heap.size W w'):=hid (fun W v hv hu=>so_ruleIs ⟨rk,rfg,rc,rst,rad,rco,zs,rli⟩ v (.slice pu zs.length cu) W hv hu hfl hset.2.1 (by have:=hset.len;show zs.length≤1048576;omega))
   clear hc hcells q0 q1 q2 q3 q4 q5 q6 q7 key hr1 hfl hset hru hx hkr hkF
   go_upto_region 11 with fail
   have HX1:=hid (heap_alloc_new wr (.cells #[.int .i64 rk,.int .i64 rfg,.bool rc,.string rst,.string rad,.string rco,.slice pu zs.length cu,.int .i64 rli] 41))
   have HB1:=hid (HBk.out.alloc HBk.out.size (.cells #[.int .i64 rk,.int .i64 rfg,.bool rc,.string rst,.string rad,.string rco,.slice pu zs.length cu,.int .i64 rli] 41))
   have HI1:=hid (HIs.out.keep ((Below.refl _ _).alloc (Nat.le_refl _) (.cells #[.int .i64 rk,.int .i64 rfg,.bool rc,.string rst,.string rad,.string rco,.slice pu zs.length cu,.int .i64 rli] 41)))
   obtain⟨w1,hw1⟩:∃W,wr.alloc (.cells #[.int .i64 rk,.int .i64 rfg,.bool rc,.string rst,.string rad,.string rco,.slice pu zs.length cu,.int .i64 rli] 41)=W:=⟨_,rfl⟩
   obtain⟨xb,hxb⟩:∃n,wr.heap.size=n:=⟨_,rfl⟩
   rw [hw1,hxb] at HX1
   rw [hw1] at HB1 HI1 ⊢
   rw [hxb]
   clear hw1 hxb e0 e1 e2 e3 e4 e5 e6 e7
   go_wp2_with (first
    | (go_at_call 12;refine (HRk.out _ HB1.out).mono ?_;rintro e w5 ⟨v5,rfl,hfn,hb5⟩;obtain⟨p5,c5,rfl⟩:∃p c,v5=.slice p zs.length c:=(by obtain⟨p,c,hv,-⟩:=hfn;exact⟨p,c,hv⟩);have HB5:=hid ((HB1.out.trans (hb5.mono HB1.out.size)).alloc (HB1.out.trans (hb5.mono HB1.out.size)).size (.cells #[.int .i64 rk,.int .u16 rfg,.bool rc,.string rst,.string rad,.string rco,.slice p5 zs.length c5] 31));have HF5:=hid (hfn.fs.keep ((Below.refl _ _).alloc (Nat.le_refl _) (.cells #[.int .i64 rk,.int .u16 rfg,.bool rc,.string rst,.string rad,.string rco,.slice p5 zs.length c5] 31)));have HI5:=hid ((HI1.out.keep hb5).keep ((Below.refl _ _).alloc (Nat.le_refl _) (.cells #[.int .i64 rk,.int .u16 rfg,.bool rc,.string rst,.string rad,.string rco,.slice p5 zs.length c5] 31)));have hx5:=(hb5.block _ (block_lt HX1.out)).trans HX1.out;have hl5:=block_lt hx5;have x0:=cell_of_heap hx5 0;have x1:=cell_of_heap hx5 1;have x2:=cell_of_heap hx5 2;have x3:=cell_of_heap hx5 3;have x4:=cell_of_heap hx5 4;have x5:=cell_of_heap hx5 5;have x6:=cell_of_heap hx5 6;have x7:=cell_of_heap hx5 7;simp only [List.getElem?_toArray,List.getElem?_cons_zero,List.getElem?_cons_succ] at x0 x1 x2 x3 x4 x5 x6 x7;clear hfn hb5 hx5)
    | (go_at_call 14;refine (HRI.out _ _ HF5.out HI5.out).mono ?_;rintro e w6 ⟨rfl,hb6⟩;have HB6:=hid (HB5.out.trans (hb6.mono HB5.out.size));clear hb6))
   go_roundw
   case rel=>exact⟨k+1,by omega,by go_num,HB6⟩
   case measure=>simp [intOf];omega
  obtain rfl:k=N:=by omega
  have d1:=(HBk.out.cell (p:=⟨ub,1,none⟩) hul).trans c1
  go_wp2_with fail
  go_loopw [18,19,20,21,108] (fun _ _ _ _ x wr=>∃k:Nat,k≤M∧x=.int .i64 k∧Hid (Below w2.heap.size w2 wr)) (fun _ _ _ _ x _=>M - (intOf x).toNat)
  case atStart=>exact⟨0,Nat.zero_le _,rfl,HBk⟩
  case round =>
  obtain⟨i,hi,rfl,HBi⟩:=hrel
  by_cases hil:i < M
  ·have hir:i < xs.length:=by have:=HMm.out;omega
   obtain⟨hie,hek⟩:=entAbs_get HXm.out hir
   obtain⟨-,A',cp',hv,hcap,hcells⟩:=HXd.out
   cases hv
   obtain⟨g,o,rfl,hc⟩:=hcells.resolve_left (by omega)
   obtain⟨q0,q1⟩:=ent_at xs i hir
   have e0':=hc _ _ q0
   have e1':=hc _ _ q1
   rw [←Nat.add_assoc] at e1'
   have e0:=(HBi.out.cell (block_lt_of_cell? _ _ e0')).trans e0'
   have e1:=(HBi.out.cell (block_lt_of_cell? _ _ e1')).trans e1'
   have hset:=(HOk.out.2.2.each _ (List.getElem_mem hie)).1
   have hen:=fun W=>HEn.out W (i:Int)
   simp only [entryAt_in hie,hek] at hen
   have his:=(HXi.out _ (List.getElem_mem hir)).keep HBi.out
   rw [hek] at hset
   obtain⟨x,hx⟩:∃x,xs[i]=x:=⟨_,rfl⟩
   obtain⟨s,u,zs⟩:=x
   rw [hx] at e0 e1 his hset
   simp only [hx] at hen
   unfold EntT entD at hen
   dsimp only [Option.getD_some,Option.isSome_some] at e0 e1 his hset hen
   have HIs:=hid his
   obtain⟨pu,cu,rfl,-⟩:=his
   have HEk:=hid hen
   have hin:(i:Int) < (M:Int):=by omega
   have HFa:Hid (∀W v,FS W v zs→IS W (.slice pu zs.length cu) zs→Calls Tryz.prog 15 #[v,.slice pu zs.length cu] W fun e w'=>e=.returned (.bool true)∧∃n,w'=W.drewN n):=hid (fun W v hv hu=>so_flagsAre v (.slice pu zs.length cu) zs W hv hu hset.2.1 (by have:=hset.len;omega))
   clear hc hcells q0 q1 e0' e1' hset hen hx hir hie hek
   go_upto_region 18 with fail
   have HX1:=hid (heap_alloc_new wr (.cells #[.string s,.slice pu zs.length cu] 54))
   have HB1:=hid (HBi.out.alloc HBi.out.size (.cells #[.string s,.slice pu zs.length cu] 54))
   have HI1:=hid (HIs.out.keep ((Below.refl _ _).alloc (Nat.le_refl _) (.cells #[.string s,.slice pu zs.length cu] 54)))
   obtain⟨w1,hw1⟩:∃W,wr.alloc (.cells #[.string s,.slice pu zs.length cu] 54)=W:=⟨_,rfl⟩
   obtain⟨xb,hxb⟩:∃n,wr.heap.size=n:=⟨_,rfl⟩
   rw [hw1,hxb] at HX1
   rw [hw1] at HB1 HI1 ⊢
   rw [hxb]
   clear hw1 hxb e0 e1
   go_wp2_with (first
    | (go_at_call 13;refine (HEk.out _ HB1.out).mono ?_;rintro e w5 ⟨v5,rfl,hfn,hb5⟩;obtain⟨p5,c5,rfl⟩:∃p c,v5=.slice p zs.length c:=(by obtain⟨p,c,hv,-⟩:=hfn;exact⟨p,c,hv⟩);have HB5:=hid ((HB1.out.trans (hb5.mono HB1.out.size)).alloc (HB1.out.trans (hb5.mono HB1.out.size)).size (.cells #[.string s,.slice p5 zs.length c5] 35));have HF5:=hid (hfn.fs.keep ((Below.refl _ _).alloc (Nat.le_refl _) (.cells #[.string s,.slice p5 zs.length c5] 35)));have HI5:=hid ((HI1.out.keep hb5).keep ((Below.refl _ _).alloc (Nat.le_refl _) (.cells #[.string s,.slice p5 zs.length c5] 35)));have hx5:=(hb5.block _ (block_lt HX1.out)).trans HX1.out;have hl5:=block_lt hx5;have x0:=cell_of_heap hx5 0;have x1:=cell_of_heap hx5 1;simp only [List.getElem?_toArray,List.getElem?_cons_zero,List.getElem?_cons_succ] at x0 x1;clear hfn hb5 hx5)
    | (go_at_call 15;refine (HFa.out _ _ HF5.out HI5.out).mono ?_;rintro e w6 ⟨rfl,m,hw6⟩;have HB6:Hid (Below w2.heap.size w2 w6):=hid (by rw [hw6];exact below_drewN HB5.out m);clear hw6))
   go_roundw
   case rel=>exact⟨i+1,by omega,by go_num,HB6⟩
   case measure=>simp [intOf];omega
  obtain rfl:i=M:=by omega
  have hru:=fun W=>HRu.out W n
  have hen:=fun W=>HEn.out W n
  unfold RulT at hru
  unfold EntT at hen
  simp only [ruleAt_is HNF.out] at hru
  simp only [entryAt_is HME.out] at hen
  obtain⟨rr,hrr⟩:∃r,ruleD (ruleAt F n)=r:=⟨_,rfl⟩
  obtain⟨ee,hee⟩:∃r,entD (entryAt es n)=r:=⟨_,rfl⟩
  simp only [hrr] at hru
  simp only [hee] at hen
  obtain⟨rk,rfg,rc,rst,rad,rco,zs,rli⟩:=rr
  obtain⟨s,zt⟩:=ee
  unfold rlV at hru
  dsimp only at hru hen
  have HRk:=hid hru
  have HEk:=hid hen
  clear hru hen hrr hee
  have d0:=(HBi.out.cell (p:=⟨ub,0,none⟩) hul).trans c0
  have d1':=(HBi.out.cell (p:=⟨ub,1,none⟩) hul).trans c1
  have d12:=(HBi.out.cell (p:=⟨rf,12,none⟩) hrfl).trans c12
  have key:(decide (n < 0)=true∧decide (0≤n)=false)∨(decide (n < 0)=false∧decide (0≤n)=true):=by
   by_cases h:n < 0
   ·exact .inl ⟨decide_eq_true h,decide_eq_false (by omega)⟩
   exact .inr ⟨decide_eq_false h,decide_eq_true (by omega)⟩
  have hul2:ub < wr.heap.size:=Nat.lt_of_lt_of_le hul HBi.out.size
  have hrf2:rf < wr.heap.size:=Nat.lt_of_lt_of_le hrfl HBi.out.size
  go_upto_region 24 with (first
   | (go_at_call 12;refine (HRk.out _ HBi.out).mono ?_;rintro e w5 ⟨v5,rfl,hfn,hb5⟩;obtain⟨p5,c5,rfl⟩:∃p c,v5=.slice p zs.length c:=(by obtain⟨p,c,hv,-⟩:=hfn;exact⟨p,c,hv⟩);have HC5:=hid (hb5.alloc hb5.size (.cells #[.int .i64 rk,.int .u16 rfg,.bool rc,.string rst,.string rad,.string rco,.slice p5 zs.length c5] 31));have HB5:=hid (HBi.out.trans (HC5.out.mono HBi.out.size));clear hfn hb5)
   | (go_at_call 13;refine (HEk.out _ HB5.out).mono ?_;rintro e w6 ⟨v6,rfl,hfn,hb6⟩;obtain⟨p6,c6,rfl⟩:∃p c,v6=.slice p zt.length c:=(by obtain⟨p,c,hv,-⟩:=hfn;exact⟨p,c,hv⟩);have HC6:=hid (HC5.out.trans (hb6.mono HC5.out.size));have HB6:=hid (HBi.out.trans (HC6.out.mono HBi.out.size));clear hfn hb6))
  have g0:=(HC6.out.cell (p:=⟨ub,0,none⟩) hul2).trans d0
  have g1:=(HC6.out.cell (p:=⟨ub,1,none⟩) hul2).trans d1'
  have g12:=(HC6.out.cell (p:=⟨rf,12,none⟩) hrf2).trans d12
  have hul6:ub < w6.heap.size:=Nat.lt_of_lt_of_le hul2 HC6.out.size
  have hrf6:rf < w6.heap.size:=Nat.lt_of_lt_of_le hrf2 HC6.out.size
  have HB7:=hid (HB6.out.alloc HB6.out.size (.cells #[.string s,.slice p6 zt.length c6] 35))
  clear d0 d1' d12
  rcases key with ⟨k1,k2⟩ | ⟨k1,k2⟩
  all_goals
   go_wp2_with fail
   go_ret
   exact⟨by simp,HB2.out.trans (HB7.out.mono HB2.out.size)⟩
theorem tablesReads_sh (a d:ByteArray) (n:Int) (W:World) (h:W.ShapedOpen Tryz.prog) :
  Calls Tryz.prog 3 #[.string a,.string d,.int .i64 n] W fun e w'=>e=.returned (.bool true)∧Below W.heap.size W w':=by
 obtain⟨m,hm⟩:=maxLen_of W h
 exact tablesReads_walk a d n m W (Nat.lt_of_le_of_lt (Nat.zero_le _) (block_lt_of_cell? _ _ hm)) hm
end Go.Proofs.YtfkblpjfknfgbaaGreatDoor
