/-
 Parts of the proof: DR5, DT5, DT6.
-/
import Derived.BigQuiet
import Derived.Test.YtfkblpjfknfgbaaGreatDoorRows
import Derived.Test.YtfkblpjfknfgbaaGreatDoorS16
import Derived.WalkLawsBesides
set_option linter.unusedVariables false
set_option linter.unusedSimpArgs false
set_option maxHeartbeats 8000000
set_option maxRecDepth 100000
open Go.Maps Go.RowKit
open Go.Lib (hid cell_of_heap)
open Go.World (block_lt_of_cell?)
namespace Go.Proofs.YtfkblpjfknfgbaaGreatDoor
theorem so_qSuffixes (ub:Nat) (F:Fl) (es:List En) (n:Int) (w:World) (h:QTabAt w ub F es) (hok:FlOk F) (hs:SetOk ((entD (entryAt es n)).2)) :
  Calls Tryz.prog 27 #[.pointer (some ⟨ub,0,none⟩),.int .i64 n] w fun e w'=>∃v',e=.returned v'∧IS w' v' (namedR F ((entD (entryAt es n)).2) 2)∧Below w.heap.size w w':=by
 have HF:=hid (so_qtFlags ub F es n w h)
 have HN:Hid (∀v,IS w v ((entD (entryAt es n)).2)→Calls Tryz.prog 55 #[.pointer (some ⟨ub,0,none⟩),v,.int .i64 2] w fun e w'=>∃v',e=.returned v'∧IS w' v' (namedR F ((entD (entryAt es n)).2) 2)∧Below w.heap.size w w'):=hid (fun v hv=>so_qNamed ub F es v _ 2 w h hok hv hs.nodup hs.len)
 clear h hok hs
 go_enter Tryz.func27,Tryz.ntmps27
 go_wp2_with (first
  | (go_at_call 53;refine HF.out.mono ?_;rintro e w1 ⟨v1,rfl,hv,rfl⟩;have HV:=hid hv;clear hv)
  | (go_at_call 55;refine (HN.out _ HV.out).mono ?_;rintro e w2 ⟨v2,rfl,hv,hb⟩;have HI:=hid hv;have HB:=hid hb;clear hv hb))
 go_ret
 exact⟨_,rfl,HI.out,HB.out⟩
/-- holds, of a set without 0. -/
theorem so_qholds (v:Value) (fs:List Int) (x:Int) (w:World) (h:IS w v fs) (h0:(0:Int)∉fs) (hl:fs.length≤65536) :
  Calls Tryz.prog 52 #[v,.int .i64 x] w fun e w'=>e=.returned (.bool (fs.contains x))∧w'=w:=by
 obtain⟨p,c,rfl,hcap,hs⟩:=h
 have HS:=hid hs
 have HZ:=hid h0
 obtain⟨R,hR⟩:∃b,fs.contains x=b:=⟨_,rfl⟩
 have HR:=hid hR
 rw [hR]
 clear hs h0 hR
 go_enter Tryz.func52,Tryz.ntmps52
 go_wp2_with fail
 go_loop [5] (fun i=>∃k:Nat,k≤fs.length∧i=.int .i64 k∧Hid ((fs.take k).contains x=false)) (fun i=>fs.length - (intOf i).toNat)
 case atStart=>exact⟨0,Nat.zero_le _,rfl,hid (by simp)⟩
 case round =>
 obtain⟨k,hk,rfl,HT⟩:=hrel
 by_cases hlt:k < fs.length
 ·obtain⟨b,off,rfl,hc⟩:=HS.out.resolve_left (by omega)
  have c1:=hc k hlt
  have he:fs.getD k 0=fs[k]:=by simp [List.getD,hlt]
  rw [he] at c1
  have hz:fs[k]≠0:=fun e=>HZ.out (by rw [←e];exact List.getElem_mem hlt)
  have hyes:fs[k]=x→R=true:=fun e=>by rw [←HR.out,←e];exact List.contains_iff_mem.2 (List.getElem_mem hlt)
  have hno:fs[k]≠x→(fs.take (k+1)).contains x=false:=fun e=>by
   have:=cAny_miss hlt e
   unfold cAny at this
   rw [this];exact HT.out
  obtain⟨z,hzz⟩:∃z,fs[k]=z:=⟨_,rfl⟩
  rw [hzz] at c1 hz hyes hno
  clear hc he hzz
  by_cases hzx:z=x
  ·have HY:=hid (hyes hzx)
   have hb1:(z==x)=true:=by rw [beq_iff_eq];exact hzx
   have hb2:(x != 0)=true:=by rw [bne_iff_ne];rw [←hzx];exact hz
   clear hzx hyes hno hz
   go_wp2_with fail
   go_ret
   exact⟨ret_bool HY.out.symm,rfl⟩
  have HN:=hid (hno hzx)
  have hb1:(z==x)=false:=by rw [beq_eq_false_iff_ne];exact hzx
  clear hzx hyes hno hz
  go_wp2_with fail
  go_round
  case rel=>exact⟨k+1,by omega,by go_num,HN⟩
  case measure=>simp [intOf];omega
 obtain rfl:k=fs.length:=by omega
 have HF:Hid (R=false):=hid (by have:=HT.out;rw [List.take_length,HR.out] at this;exact this)
 go_wp2_with fail
 go_ret
 exact⟨ret_bool HF.out.symm,rfl⟩
theorem QFileAt.spc {w:World} {rf:Nat} {F:Fl} (h:QFileAt w rf F) (k:Nat) (hk:k < 5):w.cell? ⟨rf,3+k,none⟩=some (.int .i64 (spAt F k)):=h.qdef.sp k hk
theorem so_qMarked (ub:Nat) (F:Fl) (es:List En) (n which:Int) (w:World) (h:QTabAt w ub F es) (hes:EsOk es) :
  Calls Tryz.prog 22 #[.pointer (some ⟨ub,0,none⟩),.int .i64 n,.int .i64 which] w fun e w'=>e=.returned (.bool (markR F es n which))∧w'=w:=by
 have hset:=entryAt_set hes n
 have HF:=hid (so_qtFlags ub F es n w h)
 obtain⟨rf,A,cp,rs,c0,-,-,-,-,hq⟩:=h.file
 have hsp:=hq.spc
 have hc:Hid (markR F es n which=(decide (0≤which)&&decide (which < 5)&&(entD (entryAt es n)).2.contains (spAt F which.toNat))):=hid (by
  unfold markR
  cases entryAt es n with
  | none=>show false=_;simp [entD]
  | some x=>rfl)
 obtain⟨R,hR⟩:∃b,markR F es n which=b:=⟨_,rfl⟩
 rw [hR] at hc ⊢
 obtain⟨zs,hzs⟩:∃zs,(entD (entryAt es n)).2=zs:=⟨_,rfl⟩
 rw [hzs] at hset HF hc
 have HSet:=hid hset
 clear h hq hR hzs hset
 by_cases hw:0≤which∧which < 5
 ·obtain⟨k,rfl⟩:∃k:Nat,which=k:=⟨which.toNat,by omega⟩
  have hk:k < 5:=by omega
  have d3:=hsp k hk
  have HC:Hid (R=zs.contains (spAt F k)):=hid (by rw [hc.out,decide_eq_true hw.1,decide_eq_true hw.2,Int.toNat_natCast];rfl)
  obtain⟨z,hz⟩:∃z,spAt F k=z:=⟨_,rfl⟩
  rw [hz] at d3 HC
  have hk4:¬(4:Int) < (k:Int):=by omega
  have hk5:(k:Int) < 5:=by omega
  have HH:Hid (∀v,IS w v zs→Calls Tryz.prog 52 #[v,.int .i64 z] w fun e w'=>e=.returned (.bool (zs.contains z))∧w'=w):=hid (fun v hv=>so_qholds v zs z w hv HSet.out.2.2 HSet.out.len)
  obtain⟨ct,hct⟩:∃b,zs.contains z=b:=⟨_,rfl⟩
  rw [hct] at HC
  simp only [hct] at HH
  clear hz hc hsp hw hct
  go_enter Tryz.func22,Tryz.ntmps22
  go_wp2_with (first
   | (go_at_call 53;refine HF.out.mono ?_;rintro e w1 ⟨v1,rfl,hv,rfl⟩;have HV:=hid hv;clear hv)
   | (go_at_call 52;refine (HH.out _ HV.out).mono ?_;rintro e w2 ⟨rfl,rfl⟩))
  go_ret
  exact⟨by rw [HC.out];rfl,rfl⟩
 have HC:Hid (R=false):=hid (by
  rw [hc.out]
  by_cases h0:0≤which
  ·have h5:¬which < 5:=fun h=>hw ⟨h0,h⟩
   rw [decide_eq_false h5];simp
  rw [decide_eq_false h0];simp)
 have key:(which < 0∨¬which < 0∧4 < which):=by omega
 clear hc hw
 rcases key with h0 | ⟨h0,h5⟩
 all_goals
  go_enter Tryz.func22,Tryz.ntmps22
  go_wp2_with fail
  go_ret
  exact⟨by rw [HC.out];rfl,rfl⟩
theorem so_qEnds (ub:Nat) (F:Fl) (es:List En) (n:Int) (w:World) (h:QTabAt w ub F es) (hok:FlOk F) (ht:TbInv F) :
  Calls Tryz.prog 21 #[.pointer (some ⟨ub,0,none⟩),.int .i64 n] w fun e w'=>e=.returned (.bool (endsR F n))∧Below w.heap.size w w':=by
 obtain⟨rf,A,cp,rs,c0,c12,hrm,hx2,hx3,hq⟩:=h.file
 have d3:=hq.spc 0 (by decide)
 have hxl:rs.length=F.rls.length:=by rw [←hrm];simp
 obtain⟨-,A',cp',hv,hcap,hcells⟩:=hx2
 cases hv
 clear h hq
 by_cases hin:0≤n∧n < (rs.length:Int)
 ·obtain⟨k,rfl⟩:∃k:Nat,n=k:=⟨n.toNat,by omega⟩
  have hk:k < rs.length:=by omega
  obtain⟨g,o,rfl,hc⟩:=hcells.resolve_left (by omega)
  obtain⟨-,-,-,-,-,-,q6,-⟩:=qrls_at rs k hk
  have d6:=hc _ _ q6
  rw [←Nat.add_assoc] at d6
  have hfs:=hx3 _ (List.getElem_mem hk)
  have hke:k < F.rls.length:=by omega
  have hek:F.rls[k]=rs[k].1:=by simp [←hrm]
  have hset:=next_set hok ht _ (List.getElem_mem hke)
  have HR:Hid (endsR F (k:Int)=!(rs[k].1.next.contains F.s0)):=hid (by unfold endsR;rw [ruleAt_in hke,hek])
  rw [hek] at hset
  obtain⟨x,hx⟩:∃x,rs[k]=x:=⟨_,rfl⟩
  obtain⟨⟨rk,rfl',rc,rst,rad,rco,zs,rli⟩,u⟩:=x
  rw [hx] at d6 hfs HR hset
  dsimp only at d6 hfs HR hset
  have HFs:=hid hfs
  have hzl:=hset.len
  obtain⟨z,hz⟩:∃z,spAt F 0=z:=⟨_,rfl⟩
  have HZ:Hid (F.s0=z):=hid hz
  rw [hz] at d3
  have HH:Hid (∀W,Below w.heap.size w W→Calls Tryz.prog 52 #[u,.int .i64 z] W fun e w'=>e=.returned (.bool (zs.contains z))∧w'=W):=hid (fun W hW=>so_qholds u zs z W (HFs.out.keep hW) hset.2.2 hzl)
  obtain⟨pu,cu,rfl,-⟩:=hfs
  obtain⟨hn0,hn1⟩:=hin
  obtain⟨N,hN⟩:∃N,rs.length=N:=⟨_,rfl⟩
  rw [hN] at c12 hn1 hcap
  rw [HZ.out] at HR
  obtain⟨ct,hct⟩:∃b,zs.contains z=b:=⟨_,rfl⟩
  rw [hct] at HH HR
  clear hcells hc q6 hrm hx3 hxl hke hek hx hN hk hset hz hct
  go_enter Tryz.func21,Tryz.ntmps21
  go_wp2_with fail
  go_quiet (first | (go_at_call 52;refine Calls.quiet_of_same (HH.out _ (drewN_below _))))
  go_wp2_with fail
  go_ret
  exact⟨by rw [HR.out];rfl,drewN_below _⟩
 have HR:Hid (endsR F n=false):=hid (by unfold endsR;rw [ruleAt_out (by rw [←hxl];exact hin)])
 obtain⟨N,hN⟩:∃N,rs.length=N:=⟨_,rfl⟩
 rw [hN] at c12 hin
 clear hcells hrm hx3 hxl hN hcap
 have key:(n < 0∨¬n < 0∧¬n < (N:Int)):=by omega
 rcases key with h0 | ⟨h0,h2⟩
 all_goals
  go_enter Tryz.func21,Tryz.ntmps21
  go_wp2_with fail
  go_ret
  exact⟨by rw [HR.out];rfl,Below.refl _ _⟩
theorem so_tEntryNil (n:Int) (w:World):Calls Tryz.prog 13 #[.pointer none,.int .i64 n] w (EntT none w):=by
 have HX1:=hid (heap_alloc_new w (.cells #[.string ⟨#[]⟩,.slice none 0 0] 35))
 have HB1:Hid (Below w.heap.size w (w.alloc (.cells #[.string ⟨#[]⟩,.slice none 0 0] 35))):=hid ((Below.refl _ _).alloc (Nat.le_refl _) _)
 go_enter Tryz.func13,Tryz.ntmps13
 go_wp2_with fail
 refine bodyPost_ret (v:=.tuple #[.agg #[.string ⟨#[]⟩,.slice none 0 0],.bool false]) (by simp [results,Tryz.results13,go_sem];try rfl) rfl ?_
 unfold EntT
 try rw [setCell_id HX1.out rfl,setCell_id HX1.out rfl]
 exact⟨_,rfl,FN.nil _ _ _ _,HB1.out⟩
theorem so_tRuleNil (n:Int) (w:World):Calls Tryz.prog 12 #[.pointer none,.int .i64 n] w (RulT none w):=by
 have HX1:=hid (heap_alloc_new w (.cells #[.int .i64 0,.int .u16 0,.bool false,.string ⟨#[]⟩,.string ⟨#[]⟩,.string ⟨#[]⟩,.slice none 0 0] 31))
 have HB1:Hid (Below w.heap.size w (w.alloc (.cells #[.int .i64 0,.int .u16 0,.bool false,.string ⟨#[]⟩,.string ⟨#[]⟩,.string ⟨#[]⟩,.slice none 0 0] 31))):=hid ((Below.refl _ _).alloc (Nat.le_refl _) _)
 go_enter Tryz.func12,Tryz.ntmps12
 go_wp2_with fail
 refine bodyPost_ret (v:=.tuple #[.agg #[.int .i64 0,.int .u16 0,.bool false,.string ⟨#[]⟩,.string ⟨#[]⟩,.string ⟨#[]⟩,.slice none 0 0],.bool false]) (by simp [results,Tryz.results12,go_sem];try rfl) rfl ?_
 unfold RulT
 try rw [setCell_id HX1.out rfl,setCell_id HX1.out rfl,setCell_id HX1.out rfl,setCell_id HX1.out rfl,setCell_id HX1.out rfl,setCell_id HX1.out rfl,setCell_id HX1.out rfl]
 exact⟨_,rfl,FN.nil _ _ _ _,HB1.out⟩
theorem so_tEndsNil (n:Int) (w:World):Calls Tryz.prog 19 #[.pointer none,.int .i64 n] w fun e w'=>e=.returned (.bool false)∧Below w.heap.size w w':=by
 have he:=so_tRuleNil n w
 unfold RulT ruleD rlV rl0 at he
 dsimp only [Option.getD_none,Option.isSome_none] at he
 have HE:=hid he
 clear he
 go_enter Tryz.func19,Tryz.ntmps19
 go_upto_region 2 with (go_at_call 12;refine HE.out.mono ?_;rintro e w1 ⟨v1,rfl,hfn,hb1⟩;obtain⟨p1,c1,rfl⟩:∃p c,v1=.slice p 0 c:=(by obtain⟨p,c,hv,-⟩:=hfn;exact⟨p,c,hv⟩);have HB1:=hid (hb1.alloc hb1.size (.cells #[.int .i64 0,.int .u16 0,.bool false,.string ⟨#[]⟩,.string ⟨#[]⟩,.string ⟨#[]⟩,.slice p1 0 c1] 31));clear hfn hb1)
 go_quiet (fail)
 go_wp2_with fail
 go_ret
 exact⟨rfl,below_drewN HB1.out _⟩
theorem so_tMarkedNil (n which:Int) (w:World):Calls Tryz.prog 20 #[.pointer none,.int .i64 n,.int .i64 which] w fun e w'=>e=.returned (.bool false)∧Below w.heap.size w w':=by
 have he:=so_tEntryNil n w
 unfold EntT at he
 have HE:=hid he
 clear he
 go_enter Tryz.func20,Tryz.ntmps20
 go_upto_region 2 with (go_at_call 13;refine HE.out.mono ?_;rintro e w1 ⟨v1,rfl,hfn,hb1⟩;obtain⟨p1,c1,rfl⟩:∃p c,v1=.slice p 0 c:=(by obtain⟨p,c,hv,-⟩:=hfn;exact⟨p,c,hv⟩);have HB1:=hid (hb1.alloc hb1.size (.cells #[.string ⟨#[]⟩,.slice p1 0 c1] 35));clear hfn hb1)
 go_quiet (fail)
 go_wp2_with fail
 go_ret
 exact⟨rfl,below_drewN HB1.out _⟩
def LtP (r:Except (Int×Int×Int) (Fl×List En)) (w:World) (e:Ending) (w':World):Prop:=Below w.heap.size w w'∧match r with
 | .error _=>e=.returned (.tuple #[.pointer none,.pointer none,.bool true])
 | .ok p=>∃tb ub,e=.returned (.tuple #[.pointer (some ⟨tb,0,none⟩),.pointer (some ⟨ub,0,none⟩),.bool true])∧TabAt w' tb p.1 p.2∧QTabAt w' ub p.1 p.2∧(FlOk p.1∧TbInv p.1∧EsOk p.2)∧w.heap.size≤tb∧w.heap.size≤ub
theorem so_lread13 (a d:ByteArray) (m0:Int) (w:World) (h0:0 < w.heap.size) (hm:w.cell? ⟨0,0,none⟩=some (.int .i64 m0)) :
  Calls Tryz.prog 10 #[.string a,.string d] w (LtP (tabR a.data.toList d.data.toList) w):=by
 have HR:=hid (so_tabRead a d m0 w h0 hm)
 have HQ:Hid (∀W,Calls Tryz.prog 39 #[.string a,.string d] W (QTabP (tabR a.data.toList d.data.toList) W)):=hid (fun W=>so_qtabRead a d W)
 unfold TabP at HR
 unfold QTabP at HQ
 unfold LtP
 clear h0 hm
 cases hr:tabR a.data.toList d.data.toList with
 | error p =>
  obtain⟨k,l,c⟩:=p
  rw [hr] at HR HQ
  dsimp only at HR HQ
  clear hr
  go_enter Tryz.func10,Tryz.ntmps10
  go_wp2_with fail
  refine HR.out.mono ?_
  rintro e w1 ⟨hb1,rfl⟩
  have HB1:=hid (hb1.alloc hb1.size (.cells #[.int .i64 k,.int .i64 l,.int .i64 c] 60))
  have HX1:=hid (heap_alloc_new w1 (.cells #[.int .i64 k,.int .i64 l,.int .i64 c] 60))
  clear hb1
  go_wp2_with fail
  refine (HQ.out _).mono ?_
  rintro e w2 ⟨hb2,rfl⟩
  have HB2:=hid (HB1.out.trans (hb2.mono HB1.out.size))
  have hx2:=(hb2.block _ (block_lt HX1.out)).trans HX1.out
  have hl2:=block_lt hx2
  have d0:=cell_of_heap hx2 0
  have d1:=cell_of_heap hx2 1
  have d2:=cell_of_heap hx2 2
  simp only [List.getElem?_toArray,List.getElem?_cons_zero,List.getElem?_cons_succ] at d0 d1 d2
  clear hb2 hx2
  go_wp2_with fail
  go_ret3
  exact⟨HB2.out.alloc HB2.out.size _,by simp⟩
 | ok p =>
  obtain⟨F,es⟩:=p
  rw [hr] at HR HQ
  dsimp only at HR HQ
  clear hr
  go_enter Tryz.func10,Tryz.ntmps10
  go_wp2_with fail
  refine HR.out.mono ?_
  rintro e w1 ⟨hb1,tb,rfl,ht,hok,htb⟩
  have HB1:=hid (hb1.alloc hb1.size (.cells #[.int .i64 0,.int .i64 0,.int .i64 0] 60))
  have HX1:=hid (heap_alloc_new w1 (.cells #[.int .i64 0,.int .i64 0,.int .i64 0] 60))
  have HT1:=hid (ht.keep ((Below.refl _ _).alloc (Nat.le_refl _) (.cells #[.int .i64 0,.int .i64 0,.int .i64 0] 60)))
  have HOk:=hid hok
  have HTb:=hid htb
  clear hb1 ht hok htb
  go_wp2_with fail
  refine (HQ.out _).mono ?_
  rintro e w2 ⟨hb2,ub,rfl,hq,hub⟩
  have HB2:=hid (HB1.out.trans (hb2.mono HB1.out.size))
  have HT2:=hid (HT1.out.keep hb2)
  have HQ2:=hid hq
  have HUb:Hid (w.heap.size≤ub):=hid (Nat.le_trans HB1.out.size hub)
  have hx2:=(hb2.block _ (block_lt HX1.out)).trans HX1.out
  have hl2:=block_lt hx2
  have d0:=cell_of_heap hx2 0
  have d1:=cell_of_heap hx2 1
  have d2:=cell_of_heap hx2 2
  simp only [List.getElem?_toArray,List.getElem?_cons_zero,List.getElem?_cons_succ] at d0 d1 d2
  clear hb2 hx2 hq hub
  go_wp2_with fail
  go_ret3
  have hba:=(Below.refl w2.heap.size w2).alloc (Nat.le_refl _) (.cells #[.int .i64 0,.int .i64 0,.int .i64 0] 103)
  exact⟨HB2.out.alloc HB2.out.size _,tb,ub,by simp,HT2.out.keep hba,HQ2.out.keep hba,HOk.out,HTb.out,HUb.out⟩
theorem tablesMarks_walk (a d:ByteArray) (n:Int) (m0:Int) (w:World) (h0:0 < w.heap.size) (hm:w.cell? ⟨0,0,none⟩=some (.int .i64 m0)) :
  Calls Tryz.prog 5 #[.string a,.string d,.int .i64 n] w fun e w'=>e=.returned (.bool true)∧Below w.heap.size w w':=by
 have HM:Hid (∀W,Below w.heap.size w W→0 < W.heap.size∧W.cell? ⟨0,0,none⟩=some (.int .i64 m0)):=hid (fun W hW=>⟨Nat.lt_of_lt_of_le h0 hW.size,(hW.cell (block_lt_of_cell? _ _ hm)).trans hm⟩)
 have HW:Hid (∀W,Below w.heap.size w W→Calls Tryz.prog 11 #[] W fun e w'=>e=.returned (.bool true)∧Below W.heap.size W w'):=hid (fun W hW=>so_twakes m0 W (HM.out W hW).1 (HM.out W hW).2)
 have HR:=hid (so_lread13 a d m0 w h0 hm)
 unfold LtP at HR
 clear h0 hm
 cases hr:tabR a.data.toList d.data.toList with
 | error p =>
  rw [hr] at HR
  dsimp only at HR
  clear hr
  go_enter Tryz.func5,Tryz.ntmps5
  go_wp2_with (first
   | (go_at_call 10;refine HR.out.mono ?_;rintro e w1 ⟨hb1,rfl⟩;have HB1:=hid hb1;clear hb1)
   | (go_at_call 11;refine (HW.out _ HB1.out).mono ?_;rintro e w2 ⟨rfl,hb2⟩;have HB2:=hid (HB1.out.trans (hb2.mono HB1.out.size));clear hb2)
   | (go_at_call 19;refine (so_tEndsNil n _).mono ?_;rintro e w3 ⟨rfl,hb3⟩;have HB3:=hid (HB2.out.trans (hb3.mono HB2.out.size));clear hb3)
   | (go_at_call 20;refine (so_tMarkedNil n 0 _).mono ?_;rintro e w4 ⟨rfl,hb4⟩;have HB4:=hid (HB3.out.trans (hb4.mono HB3.out.size));clear hb4))
  go_ret
  exact⟨by simp,HB4.out⟩
 | ok p =>
  obtain⟨F,es⟩:=p
  rw [hr] at HR
  dsimp only at HR
  clear hr
  go_enter Tryz.func5,Tryz.ntmps5
  go_upto_region 6 with (first
   | (go_at_call 10;refine HR.out.mono ?_;rintro e w1 ⟨hb1,tb,ub,rfl,ht,hq,hok,-,-⟩;have HB1:=hid hb1;have HT1:=hid ht;have HQ1:=hid hq;have HOk:=hid hok;clear hb1 ht hq hok)
   | (go_at_call 11;refine (HW.out _ HB1.out).mono ?_;rintro e w2 ⟨rfl,hb2⟩;have HB2:=hid (HB1.out.trans (hb2.mono HB1.out.size));have HT2:=hid (HT1.out.keep hb2);have HQ2:=hid (HQ1.out.keep hb2);clear hb2))
  have HEn:Hid (∀W i,Below w2.heap.size w2 W→Calls Tryz.prog 19 #[.pointer (some ⟨tb,0,none⟩),.int .i64 i] W fun e w'=>e=.returned (.bool (endsR F i))∧Below W.heap.size W w'):=hid (fun W i hW=>so_tEnds tb F es i W (HT2.out.keep hW) HOk.out.1 HOk.out.2.1)
  have HQe:Hid (∀W i,Below w2.heap.size w2 W→Calls Tryz.prog 21 #[.pointer (some ⟨ub,0,none⟩),.int .i64 i] W fun e w'=>e=.returned (.bool (endsR F i))∧Below W.heap.size W w'):=hid (fun W i hW=>so_qEnds ub F es i W (HQ2.out.keep hW) HOk.out.1 HOk.out.2.1)
  have HMk:Hid (∀W i j,Below w2.heap.size w2 W→Calls Tryz.prog 20 #[.pointer (some ⟨tb,0,none⟩),.int .i64 i,.int .i64 j] W fun e w'=>e=.returned (.bool (markR F es i j))∧Below W.heap.size W w'):=hid (fun W i j hW=>so_tMarked tb F es i j W (HT2.out.keep hW) HOk.out.2.2)
  have HQm:Hid (∀W i j,Below w2.heap.size w2 W→Calls Tryz.prog 22 #[.pointer (some ⟨ub,0,none⟩),.int .i64 i,.int .i64 j] W fun e w'=>e=.returned (.bool (markR F es i j))∧w'=W):=hid (fun W i j hW=>so_qMarked ub F es i j W (HQ2.out.keep hW) HOk.out.2.2)
  obtain⟨rf,A,cp,rs,c0,c12,hrm,-,-,-⟩:=HQ2.out.file
  obtain⟨A1,cp1,xs,c1,hx1,-,-⟩:=HQ2.out.ents
  have hrl:rs.length≤65536:=by
   have h:rs.length=F.rls.length:=by rw [←hrm];simp
   have:=HOk.out.1.rls
   omega
  have hxl:xs.length≤65536:=by
   have h:xs.length=es.length:=by rw [←hx1,entAbs_len]
   have:=HOk.out.2.2.len
   omega
  obtain⟨N,hN⟩:∃N,rs.length=N:=⟨_,rfl⟩
  obtain⟨M,hM⟩:∃M,xs.length=M:=⟨_,rfl⟩
  rw [hN] at c12 hrl
  rw [hM] at c1 hxl
  have hul:ub < w2.heap.size:=block_lt_of_cell? _ _ c0
  clear HR HW HM HT1 HQ1 HB1 hrm hx1 hN hM
  go_wp2_with fail
  go_loopw [10,46] (fun _ x wr=>∃k:Nat,k≤N∧x=.int .i64 k∧Hid (Below w2.heap.size w2 wr)) (fun _ x _=>N - (intOf x).toNat)
  case atStart=>exact⟨0,Nat.zero_le _,rfl,hid (Below.refl _ _)⟩
  case round =>
  obtain⟨k,hk,rfl,HBk⟩:=hrel
  by_cases hlt:k < N
  ·have hkn:(k:Int) < (N:Int):=by omega
   have he:=HEn.out wr (k:Int) HBk.out
   have hq:=fun W=>HQe.out W (k:Int)
   obtain⟨b,hb⟩:∃b,endsR F (k:Int)=b:=⟨_,rfl⟩
   rw [hb] at he
   simp only [hb] at hq
   have HE:=hid he
   have HQ:=hid hq
   clear he hq hb
   go_wp2_with (first
    | (go_at_call 19;refine HE.out.mono ?_;rintro e w3 ⟨rfl,hb3⟩;have HB3:=hid (HBk.out.trans (hb3.mono HBk.out.size));clear hb3)
    | (go_at_call 21;refine (HQ.out _ HB3.out).mono ?_;rintro e w4 ⟨rfl,hb4⟩;have HB4:=hid (HB3.out.trans (hb4.mono HB3.out.size));clear hb4))
   go_roundw
   case rel=>exact⟨k+1,by omega,by go_num,HB4⟩
   case measure=>simp [intOf];omega
  obtain rfl:k=N:=by omega
  have d1:=(HBk.out.cell (p:=⟨ub,1,none⟩) hul).trans c1
  go_wp2_with fail
  go_loopw [11,12,62] (fun _ _ x wr=>∃k:Nat,k≤M∧x=.int .i64 k∧Hid (Below w2.heap.size w2 wr)) (fun _ _ x _=>M - (intOf x).toNat)
  case atStart=>exact⟨0,Nat.zero_le _,rfl,HBk⟩
  case round =>
  obtain⟨i,hi,rfl,HBi⟩:=hrel
  by_cases hil:i < M
  ·have hin:(i:Int) < (M:Int):=by omega
   go_wp2_with fail
   go_loopw [12,65] (fun _ x wr=>∃k:Nat,k≤5∧x=.int .i64 k∧Hid (Below w2.heap.size w2 wr)) (fun _ x _=>5 - (intOf x).toNat)
   case atStart=>exact⟨0,Nat.zero_le _,rfl,HBi⟩
   case round =>
   obtain⟨j,hj,rfl,HBj⟩:=hrel
   by_cases hjl:j < 5
   ·have hjn:(j:Int) < 5:=by omega
    have he:=HMk.out wr (i:Int) (j:Int) HBj.out
    have hq:=fun W=>HQm.out W (i:Int) (j:Int)
    obtain⟨b,hb⟩:∃b,markR F es (i:Int) (j:Int)=b:=⟨_,rfl⟩
    rw [hb] at he
    simp only [hb] at hq
    have HE:=hid he
    have HQ:=hid hq
    clear he hq hb
    go_wp2_with (first
     | (go_at_call 20;refine HE.out.mono ?_;rintro e w3 ⟨rfl,hb3⟩;have HB3:=hid (HBj.out.trans (hb3.mono HBj.out.size));clear hb3)
     | (go_at_call 22;refine (HQ.out _ HB3.out).mono ?_;rintro e w4 ⟨rfl,rfl⟩))
    go_roundw
    case rel=>exact⟨j+1,by omega,by go_num,HB3⟩
    case measure=>simp [intOf];omega
   obtain rfl:j=5:=by omega
   have he:=HMk.out wr (i:Int) n HBj.out
   have hq:=fun W=>HQm.out W (i:Int) n
   obtain⟨b,hb⟩:∃b,markR F es (i:Int) n=b:=⟨_,rfl⟩
   rw [hb] at he
   simp only [hb] at hq
   have HE:=hid he
   have HQ:=hid hq
   clear he hq hb
   go_wp2_with (first
    | (go_at_call 20;refine HE.out.mono ?_;rintro e w3 ⟨rfl,hb3⟩;have HB3:=hid (HBj.out.trans (hb3.mono HBj.out.size));clear hb3)
    | (go_at_call 22;refine (HQ.out _ HB3.out).mono ?_;rintro e w4 ⟨rfl,rfl⟩))
   go_roundw
   case rel=>exact⟨i+1,by omega,by go_num,HB3⟩
   case measure=>simp [intOf];omega
  obtain rfl:i=M:=by omega
  have he:=HEn.out wr n HBi.out
  have hq:=fun W=>HQe.out W n
  have hem:=fun W=>HMk.out W n 1
  have hqm:=fun W=>HQm.out W n 1
  obtain⟨b,hb⟩:∃b,endsR F n=b:=⟨_,rfl⟩
  obtain⟨b2,hb2⟩:∃b,markR F es n 1=b:=⟨_,rfl⟩
  rw [hb] at he
  simp only [hb] at hq
  simp only [hb2] at hem hqm
  have HE:=hid he
  have HQ:=hid hq
  have HE2:=hid hem
  have HQ2':=hid hqm
  clear he hq hem hqm hb hb2
  go_wp2_with (first
   | (go_at_call 19;refine HE.out.mono ?_;rintro e w3 ⟨rfl,hb3⟩;have HB3:=hid (HBi.out.trans (hb3.mono HBi.out.size));clear hb3)
   | (go_at_call 21;refine (HQ.out _ HB3.out).mono ?_;rintro e w4 ⟨rfl,hb4⟩;have HB4:=hid (HB3.out.trans (hb4.mono HB3.out.size));clear hb4)
   | (go_at_call 20;refine (HE2.out _ HB4.out).mono ?_;rintro e w5 ⟨rfl,hb5⟩;have HB5:=hid (HB4.out.trans (hb5.mono HB4.out.size));clear hb5)
   | (go_at_call 22;refine (HQ2'.out _ HB5.out).mono ?_;rintro e w6 ⟨rfl,rfl⟩))
  go_ret
  exact⟨by simp,HB2.out.trans (HB5.out.mono HB2.out.size)⟩
theorem tablesMarks_sh (a d:ByteArray) (n:Int) (W:World) (h:W.ShapedOpen Tryz.prog) :
  Calls Tryz.prog 5 #[.string a,.string d,.int .i64 n] W fun e w'=>e=.returned (.bool true)∧Below W.heap.size W w':=by
 obtain⟨m,hm⟩:=maxLen_of W h
 exact tablesMarks_walk a d n m W (Nat.lt_of_le_of_lt (Nat.zero_le _) (block_lt_of_cell? _ _ hm)) hm
end Go.Proofs.YtfkblpjfknfgbaaGreatDoor
