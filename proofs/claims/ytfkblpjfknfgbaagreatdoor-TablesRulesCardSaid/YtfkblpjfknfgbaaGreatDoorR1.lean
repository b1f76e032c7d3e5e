/-
 Parts of the proof: DC13, DR4, DR5, DT5, DT7.
-/
import Derived.BigQuiet
import Derived.Test.YtfkblpjfknfgbaaGreatDoorRows
import Derived.Test.YtfkblpjfknfgbaaGreatDoorS16
import Derived.Test.YtfkblpjfknfgbaaGreatDoorS3
import Derived.WalkLawsBesides
set_option linter.unusedVariables false
set_option linter.unusedSimpArgs false
set_option maxHeartbeats 8000000
set_option maxRecDepth 100000
open Go.Maps Go.RowKit
open Go.Lib (hid cell_of_heap)
open Go.World (block_lt_of_cell?)
namespace Go.Proofs.YtfkblpjfknfgbaaGreatDoor
theorem so_tPrefixes (tb:Nat) (F:Fl) (es:List En) (n:Int) (w:World) (h:TabAt w tb F es) (hok:FlOk F) (ht:TbInv F) (hes:EsOk es) :
  Calls Tryz.prog 24 #[.pointer (some ⟨tb,0,none⟩),.int .i64 n] w fun e w'=>∃v',e=.returned v'∧IN w.heap.size w' v' (namedR F ((entD (entryAt es n)).2) 1)∧Below w.heap.size w w':=by
 have hset:=entryAt_set hes n
 have he:=so_tEntry tb F es n w h hes
 unfold EntT at he
 obtain⟨b,hb⟩:∃b,(entryAt es n).isSome=b:=⟨_,rfl⟩
 obtain⟨x,hx⟩:∃x,entD (entryAt es n)=x:=⟨_,rfl⟩
 rw [hb,hx] at he
 rw [hx] at hset ⊢
 obtain⟨s,zs⟩:=x
 skip
 dsimp only at he hset ⊢
 have HE:=hid he
 have HS:=hid hset
 have HT:=hid h
 have HOk:=hid hok
 have HTb:=hid ht
 clear he hset h hok ht hes hx hb
 go_enter Tryz.func24,Tryz.ntmps24
 go_wp2_with (first
  | (go_at_call 13;refine HE.out.mono ?_;rintro e w1 ⟨v1,rfl,hfn,hb1⟩;obtain⟨p1,c1,rfl⟩:∃p c,v1=.slice p zs.length c:=(by obtain⟨p,c,hv,-⟩:=hfn;exact⟨p,c,hv⟩);have hba:=hb1.alloc hb1.size (.cells #[.string s,.slice p1 zs.length c1] 35);have HB1:=hid hba;have HF1:=hid (hfn.fs.keep ((Below.refl _ _).alloc (Nat.le_refl _) (.cells #[.string s,.slice p1 zs.length c1] 35)));clear hfn hb1 hba)
  | (go_at_call 54;refine (so_named tb F es _ zs 1 _ (HT.out.keep HB1.out) HTb.out.1 HOk.out HF1.out HS.out).mono ?_;rintro e w2 ⟨v2,rfl,hin,hb2⟩;have HB2:=hid (HB1.out.trans (hb2.mono HB1.out.size));have HI:=hid (hin.mono HB1.out.size);clear hin hb2))
 go_ret
 exact⟨_,rfl,HI.out,HB2.out⟩
theorem so_tSeconds (tb:Nat) (F:Fl) (es:List En) (n:Int) (w:World) (h:TabAt w tb F es) (hok:FlOk F) (ht:TbInv F) (hes:EsOk es) :
  Calls Tryz.prog 25 #[.pointer (some ⟨tb,0,none⟩),.int .i64 n] w fun e w'=>∃v',e=.returned v'∧IN w.heap.size w' v' (namedR F ((ruleD (ruleAt F n)).next) 2)∧Below w.heap.size w w':=by
 have hset:=ruleAt_set hok ht n
 have he:=so_tRule tb F es n w h hok
 unfold RulT at he
 obtain⟨b,hb⟩:∃b,(ruleAt F n).isSome=b:=⟨_,rfl⟩
 obtain⟨x,hx⟩:∃x,ruleD (ruleAt F n)=x:=⟨_,rfl⟩
 rw [hb,hx] at he
 rw [hx] at hset ⊢
 obtain⟨rk,rf,rc,rst,rad,rco,zs,rli⟩:=x
 unfold rlV at he
 dsimp only at he hset ⊢
 have HE:=hid he
 have HS:=hid hset
 have HT:=hid h
 have HOk:=hid hok
 have HTb:=hid ht
 clear he hset h hok ht hes hx hb
 go_enter Tryz.func25,Tryz.ntmps25
 go_wp2_with (first
  | (go_at_call 12;refine HE.out.mono ?_;rintro e w1 ⟨v1,rfl,hfn,hb1⟩;obtain⟨p1,c1,rfl⟩:∃p c,v1=.slice p zs.length c:=(by obtain⟨p,c,hv,-⟩:=hfn;exact⟨p,c,hv⟩);have hba:=hb1.alloc hb1.size (.cells #[.int .i64 rk,.int .u16 rf,.bool rc,.string rst,.string rad,.string rco,.slice p1 zs.length c1] 31);have HB1:=hid hba;have HF1:=hid (hfn.fs.keep ((Below.refl _ _).alloc (Nat.le_refl _) (.cells #[.int .i64 rk,.int .u16 rf,.bool rc,.string rst,.string rad,.string rco,.slice p1 zs.length c1] 31)));clear hfn hb1 hba)
  | (go_at_call 54;refine (so_named tb F es _ zs 2 _ (HT.out.keep HB1.out) HTb.out.1 HOk.out HF1.out HS.out).mono ?_;rintro e w2 ⟨v2,rfl,hin,hb2⟩;have HB2:=hid (HB1.out.trans (hb2.mono HB1.out.size));have HI:=hid (hin.mono HB1.out.size);clear hin hb2))
 go_ret
 exact⟨_,rfl,HI.out,HB2.out⟩
theorem so_qtNext (ub:Nat) (F:Fl) (es:List En) (n:Int) (w:World) (h:QTabAt w ub F es) :
  Calls Tryz.prog 56 #[.pointer (some ⟨ub,0,none⟩),.int .i64 n] w fun e w'=>∃v,e=.returned v∧IS w v (ruleD (ruleAt F n)).next∧w=w':=by
 obtain⟨rf,A,cp,rs,c0,c12,hrm,hx2,hx3,-⟩:=h.file
 have hxl:rs.length=F.rls.length:=by rw [←hrm];simp
 obtain⟨-,A',cp',hv,hcap,hcells⟩:=hx2
 cases hv
 clear h
 by_cases hin:0≤n∧n < (rs.length:Int)
 ·obtain⟨k,rfl⟩:∃k:Nat,n=k:=⟨n.toNat,by omega⟩
  have hk:k < rs.length:=by omega
  obtain⟨g,o,rfl,hc⟩:=hcells.resolve_left (by omega)
  obtain⟨-,-,-,-,-,-,q6,-⟩:=qrls_at rs k hk
  have d6:=hc _ _ q6
  rw [←Nat.add_assoc] at d6
  have hfs:=hx3 _ (List.getElem_mem hk)
  have hke:k < F.rls.length:=by omega
  have hek:F.rls[k]=rs[k].1:=by simp [←hrm]
  have HR:Hid ((ruleD (ruleAt F (k:Int))).next=rs[k].1.next):=hid (by rw [ruleAt_in hke,hek];rfl)
  obtain⟨x,hx⟩:∃x,rs[k]=x:=⟨_,rfl⟩
  obtain⟨⟨rk,rfl',rc,rst,rad,rco,zs,rli⟩,u⟩:=x
  rw [hx] at d6 hfs HR
  dsimp only at d6 hfs HR
  have HFs:=hid hfs
  obtain⟨pu,cu,rfl,-⟩:=hfs
  obtain⟨hn0,hn1⟩:=hin
  obtain⟨N,hN⟩:∃N,rs.length=N:=⟨_,rfl⟩
  rw [hN] at c12 hn1 hcap
  clear hcells hc q6 hrm hx3 hxl hke hek hx hN hk
  go_enter Tryz.func56,Tryz.ntmps56
  go_wp2_with fail
  go_ret
  exact⟨_,rfl,by rw [HR.out];exact HFs.out,rfl⟩
 have HR:=hid (ruleAt_out (F:=F) (n:=n) (by rw [←hxl];exact hin))
 obtain⟨N,hN⟩:∃N,rs.length=N:=⟨_,rfl⟩
 rw [hN] at c12 hin
 clear hcells hrm hx3 hxl hN hcap
 have key:(n < 0∨¬n < 0∧¬n < (N:Int)):=by omega
 rcases key with h0 | ⟨h0,h2⟩
 all_goals
  go_enter Tryz.func56,Tryz.ntmps56
  go_wp2_with fail
  go_ret
  exact⟨_,rfl,by rw [HR.out];exact IS.nil _,rfl⟩
theorem so_qSuffixes (ub:Nat) (F:Fl) (es:List En) (n:Int) (w:World) (h:QTabAt w ub F es) (hok:FlOk F) (hs:SetOk ((entD (entryAt es n)).2)) :
  Calls Tryz.prog 27 #[.pointer (some ⟨ub,0,none⟩),.int .i64 n] w fun e w'=>∃v',e=.returned v'∧IS w' v' (namedR F ((entD (entryAt es n)).2) 2)∧Below w.heap.size w w':=by
 have HF:=hid (so_qtFlags ub F es n w h)
 have HN:Hid (∀v,IS w v ((entD (entryAt es n)).2)→Calls Tryz.prog 55 #[.pointer (some ⟨ub,0,none⟩),v,.int .i64 2] w fun e w'=>∃v',e=.returned v'∧IS w' v' (namedR F ((entD (entryAt es n)).2) 2)∧Below w.heap.size w w'):=hid (fun v hv=>so_qNamed ub F es v _ 2 w h hok hv hs.nodup hs.len)
 clear h hok hs
 go_enter Tryz.func27,Tryz.ntmps27
 go_wp2_with (first
  | (go_at_call 53;refine HF.out.mono ?_;rintro e w1 ⟨v1,rfl,hv,rfl⟩;have HV:=hid hv;clear hv)
  | (go_at_call 55;refine (HN.out _ HV.out).mono ?_;rintro e w2 ⟨v2,rfl,hv,hb⟩;have HI:=hid hv;have HB:=hid hb;clear hv hb))
 go_ret
 exact⟨_,rfl,HI.out,HB.out⟩
theorem so_qPrefixes (ub:Nat) (F:Fl) (es:List En) (n:Int) (w:World) (h:QTabAt w ub F es) (hok:FlOk F) (hs:SetOk ((entD (entryAt es n)).2)) :
  Calls Tryz.prog 28 #[.pointer (some ⟨ub,0,none⟩),.int .i64 n] w fun e w'=>∃v',e=.returned v'∧IS w' v' (namedR F ((entD (entryAt es n)).2) 1)∧Below w.heap.size w w':=by
 have HF:=hid (so_qtFlags ub F es n w h)
 have HN:Hid (∀v,IS w v ((entD (entryAt es n)).2)→Calls Tryz.prog 55 #[.pointer (some ⟨ub,0,none⟩),v,.int .i64 1] w fun e w'=>∃v',e=.returned v'∧IS w' v' (namedR F ((entD (entryAt es n)).2) 1)∧Below w.heap.size w w'):=hid (fun v hv=>so_qNamed ub F es v _ 1 w h hok hv hs.nodup hs.len)
 clear h hok hs
 go_enter Tryz.func28,Tryz.ntmps28
 go_wp2_with (first
  | (go_at_call 53;refine HF.out.mono ?_;rintro e w1 ⟨v1,rfl,hv,rfl⟩;have HV:=hid hv;clear hv)
  | (go_at_call 55;refine (HN.out _ HV.out).mono ?_;rintro e w2 ⟨v2,rfl,hv,hb⟩;have HI:=hid hv;have HB:=hid hb;clear hv hb))
 go_ret
 exact⟨_,rfl,HI.out,HB.out⟩
theorem so_qSeconds (ub:Nat) (F:Fl) (es:List En) (n:Int) (w:World) (h:QTabAt w ub F es) (hok:FlOk F) (hs:SetOk ((ruleD (ruleAt F n)).next)) :
  Calls Tryz.prog 29 #[.pointer (some ⟨ub,0,none⟩),.int .i64 n] w fun e w'=>∃v',e=.returned v'∧IS w' v' (namedR F ((ruleD (ruleAt F n)).next) 2)∧Below w.heap.size w w':=by
 have HF:=hid (so_qtNext ub F es n w h)
 have HN:Hid (∀v,IS w v ((ruleD (ruleAt F n)).next)→Calls Tryz.prog 55 #[.pointer (some ⟨ub,0,none⟩),v,.int .i64 2] w fun e w'=>∃v',e=.returned v'∧IS w' v' (namedR F ((ruleD (ruleAt F n)).next) 2)∧Below w.heap.size w w'):=hid (fun v hv=>so_qNamed ub F es v _ 2 w h hok hv hs.nodup hs.len)
 clear h hok hs
 go_enter Tryz.func29,Tryz.ntmps29
 go_wp2_with (first
  | (go_at_call 56;refine HF.out.mono ?_;rintro e w1 ⟨v1,rfl,hv,rfl⟩;have HV:=hid hv;clear hv)
  | (go_at_call 55;refine (HN.out _ HV.out).mono ?_;rintro e w2 ⟨v2,rfl,hv,hb⟩;have HI:=hid hv;have HB:=hid hb;clear hv hb))
 go_ret
 exact⟨_,rfl,HI.out,HB.out⟩
theorem so_tEntryNil (n:Int) (w:World):Calls Tryz.prog 13 #[.pointer none,.int .i64 n] w (EntT none w):=by
 have HX1:=hid (heap_alloc_new w (.cells #[.string ⟨#[]⟩,.slice none 0 0] 35))
 have HB1:Hid (Below w.heap.size w (w.alloc (.cells #[.string ⟨#[]⟩,.slice none 0 0] 35))):=hid ((Below.refl _ _).alloc (Nat.le_refl _) _)
 go_enter Tryz.func13,Tryz.ntmps13
 go_wp2_with fail
 refine bodyPost_ret (v:=.tuple #[.agg #[.string ⟨#[]⟩,.slice none 0 0],.bool false]) (by simp [results,Tryz.results13,go_sem];try rfl) rfl ?_
 unfold EntT
 try rw [setCell_id HX1.out rfl,setCell_id HX1.out rfl]
 exact⟨_,rfl,FN.nil _ _ _ _,HB1.out⟩
theorem so_tRuleNil (n:Int) (w:World):Calls Tryz.prog 12 #[.pointer none,.int .i64 n] w (RulT none w):=by
 have HX1:=hid (heap_alloc_new w (.cells #[.int .i64 0,.int .u16 0,.bool false,.string ⟨#[]⟩,.string ⟨#[]⟩,.string ⟨#[]⟩,.slice none 0 0] 31))
 have HB1:Hid (Below w.heap.size w (w.alloc (.cells #[.int .i64 0,.int .u16 0,.bool false,.string ⟨#[]⟩,.string ⟨#[]⟩,.string ⟨#[]⟩,.slice none 0 0] 31))):=hid ((Below.refl _ _).alloc (Nat.le_refl _) _)
 go_enter Tryz.func12,Tryz.ntmps12
 go_wp2_with fail
 refine bodyPost_ret (v:=.tuple #[.agg #[.int .i64 0,.int .u16 0,.bool false,.string ⟨#[]⟩,.string ⟨#[]⟩,.string ⟨#[]⟩,.slice none 0 0],.bool false]) (by simp [results,Tryz.results12,go_sem];try rfl) rfl ?_
 unfold RulT
 try rw [setCell_id HX1.out rfl,setCell_id HX1.out rfl,setCell_id HX1.out rfl,setCell_id HX1.out rfl,setCell_id HX1.out rfl,setCell_id HX1.out rfl,setCell_id HX1.out rfl]
 exact⟨_,rfl,FN.nil _ _ _ _,HB1.out⟩
theorem so_namedNil (p:Option Addr) (c:Nat) (kind:Int) (w:World):Calls Tryz.prog 54 #[.pointer none,.slice p 0 c,.int .i64 kind] w fun e w'=>e=.returned (.slice none 0 0)∧Below w.heap.size w w':=by
 go_enter Tryz.func54,Tryz.ntmps54
 go_wp2_with fail
 go_loopw [7,9,10,11,12,15] (fun s7 _ _ _ _ x wr=>s7=.slice none 0 0∧x=.int .i64 0∧wr=w) (fun _ _ _ _ _ _ _=>0)
 case atStart=>exact⟨rfl,rfl,rfl⟩
 case round =>
 obtain⟨rfl,rfl,rfl⟩:=hrel
 go_wp2_with (go_at_call 88;refine (Tryz.slices_Sort_int_none _ _ _).mono ?_;rintro e w5 ⟨rfl,rfl⟩)
 go_ret
 exact⟨rfl,Below.refl _ _⟩
theorem so_tSuffixesNil (n:Int) (w:World):Calls Tryz.prog 23 #[.pointer none,.int .i64 n] w fun e w'=>e=.returned (.slice none 0 0)∧Below w.heap.size w w':=by
 have he:=so_tEntryNil n w
 unfold EntT at he
 have HE:=hid he
 clear he
 go_enter Tryz.func23,Tryz.ntmps23
 go_wp2_with (first
  | (go_at_call 13;refine HE.out.mono ?_;rintro e w1 ⟨v1,rfl,hfn,hb1⟩;obtain⟨p1,c1,rfl⟩:∃p c,v1=.slice p 0 c:=(by obtain⟨p,c,hv,-⟩:=hfn;exact⟨p,c,hv⟩);have HB1:=hid (hb1.alloc hb1.size (.cells #[.string ⟨#[]⟩,.slice p1 0 c1] 35));clear hfn hb1)
  | (go_at_call 54;refine (so_namedNil _ _ _ _).mono ?_;rintro e w2 ⟨rfl,hb2⟩;have HB2:=hid (HB1.out.trans (hb2.mono HB1.out.size));clear hb2))
 go_ret
 exact⟨rfl,HB2.out⟩
theorem so_tPrefixesNil (n:Int) (w:World):Calls Tryz.prog 24 #[.pointer none,.int .i64 n] w fun e w'=>e=.returned (.slice none 0 0)∧Below w.heap.size w w':=by
 have he:=so_tEntryNil n w
 unfold EntT at he
 have HE:=hid he
 clear he
 go_enter Tryz.func24,Tryz.ntmps24
 go_wp2_with (first
  | (go_at_call 13;refine HE.out.mono ?_;rintro e w1 ⟨v1,rfl,hfn,hb1⟩;obtain⟨p1,c1,rfl⟩:∃p c,v1=.slice p 0 c:=(by obtain⟨p,c,hv,-⟩:=hfn;exact⟨p,c,hv⟩);have HB1:=hid (hb1.alloc hb1.size (.cells #[.string ⟨#[]⟩,.slice p1 0 c1] 35));clear hfn hb1)
  | (go_at_call 54;refine (so_namedNil _ _ _ _).mono ?_;rintro e w2 ⟨rfl,hb2⟩;have HB2:=hid (HB1.out.trans (hb2.mono HB1.out.size));clear hb2))
 go_ret
 exact⟨rfl,HB2.out⟩
theorem so_tSecondsNil (n:Int) (w:World):Calls Tryz.prog 25 #[.pointer none,.int .i64 n] w fun e w'=>e=.returned (.slice none 0 0)∧Below w.heap.size w w':=by
 have he:=so_tRuleNil n w
 unfold RulT ruleD rlV rl0 at he
 dsimp only [Option.getD_none,Option.isSome_none] at he
 have HE:=hid he
 clear he
 go_enter Tryz.func25,Tryz.ntmps25
 go_wp2_with (first
  | (go_at_call 12;refine HE.out.mono ?_;rintro e w1 ⟨v1,rfl,hfn,hb1⟩;obtain⟨p1,c1,rfl⟩:∃p c,v1=.slice p 0 c:=(by obtain⟨p,c,hv,-⟩:=hfn;exact⟨p,c,hv⟩);have HB1:=hid (hb1.alloc hb1.size (.cells #[.int .i64 0,.int .u16 0,.bool false,.string ⟨#[]⟩,.string ⟨#[]⟩,.string ⟨#[]⟩,.slice p1 0 c1] 31));clear hfn hb1)
  | (go_at_call 54;refine (so_namedNil _ _ _ _).mono ?_;rintro e w2 ⟨rfl,hb2⟩;have HB2:=hid (HB1.out.trans (hb2.mono HB1.out.size));clear hb2))
 go_ret
 exact⟨rfl,HB2.out⟩
def LtP (r:Except (Int×Int×Int) (Fl×List En)) (w:World) (e:Ending) (w':World):Prop:=Below w.heap.size w w'∧match r with
 | .error _=>e=.returned (.tuple #[.pointer none,.pointer none,.bool true])
 | .ok p=>∃tb ub,e=.returned (.tuple #[.pointer (some ⟨tb,0,none⟩),.pointer (some ⟨ub,0,none⟩),.bool true])∧TabAt w' tb p.1 p.2∧QTabAt w' ub p.1 p.2∧(FlOk p.1∧TbInv p.1∧EsOk p.2)∧w.heap.size≤tb∧w.heap.size≤ub
theorem so_lread13 (a d:ByteArray) (m0:Int) (w:World) (h0:0 < w.heap.size) (hm:w.cell? ⟨0,0,none⟩=some (.int .i64 m0)) :
  Calls Tryz.prog 10 #[.string a,.string d] w (LtP (tabR a.data.toList d.data.toList) w):=by
 have HR:=hid (so_tabRead a d m0 w h0 hm)
 have HQ:Hid (∀W,Calls Tryz.prog 39 #[.string a,.string d] W (QTabP (tabR a.data.toList d.data.toList) W)):=hid (fun W=>so_qtabRead a d W)
 unfold TabP at HR
 unfold QTabP at HQ
 unfold LtP
 clear h0 hm
 cases hr:tabR a.data.toList d.data.toList with
 | error p =>
  obtain⟨k,l,c⟩:=p
  rw [hr] at HR HQ
  dsimp only at HR HQ
  clear hr
  go_enter Tryz.func10,Tryz.ntmps10
  go_wp2_with fail
  refine HR.out.mono ?_
  rintro e w1 ⟨hb1,rfl⟩
  have HB1:=hid (hb1.alloc hb1.size (.cells #[.int .i64 k,.int .i64 l,.int .i64 c] 60))
  have HX1:=hid (heap_alloc_new w1 (.cells #[.int .i64 k,.int .i64 l,.int .i64 c] 60))
  clear hb1
  go_wp2_with fail
  refine (HQ.out _).mono ?_
  rintro e w2 ⟨hb2,rfl⟩
  have HB2:=hid (HB1.out.trans (hb2.mono HB1.out.size))
  have hx2:=(hb2.block _ (block_lt HX1.out)).trans HX1.out
  have hl2:=block_lt hx2
  have d0:=cell_of_heap hx2 0
  have d1:=cell_of_heap hx2 1
  have d2:=cell_of_heap hx2 2
  simp only [List.getElem?_toArray,List.getElem?_cons_zero,List.getElem?_cons_succ] at d0 d1 d2
  clear hb2 hx2
  go_wp2_with fail
  go_ret3
  exact⟨HB2.out.alloc HB2.out.size _,by simp⟩
 | ok p =>
  obtain⟨F,es⟩:=p
  rw [hr] at HR HQ
  dsimp only at HR HQ
  clear hr
  go_enter Tryz.func10,Tryz.ntmps10
  go_wp2_with fail
  refine HR.out.mono ?_
  rintro e w1 ⟨hb1,tb,rfl,ht,hok,htb⟩
  have HB1:=hid (hb1.alloc hb1.size (.cells #[.int .i64 0,.int .i64 0,.int .i64 0] 60))
  have HX1:=hid (heap_alloc_new w1 (.cells #[.int .i64 0,.int .i64 0,.int .i64 0] 60))
  have HT1:=hid (ht.keep ((Below.refl _ _).alloc (Nat.le_refl _) (.cells #[.int .i64 0,.int .i64 0,.int .i64 0] 60)))
  have HOk:=hid hok
  have HTb:=hid htb
  clear hb1 ht hok htb
  go_wp2_with fail
  refine (HQ.out _).mono ?_
  rintro e w2 ⟨hb2,ub,rfl,hq,hub⟩
  have HB2:=hid (HB1.out.trans (hb2.mono HB1.out.size))
  have HT2:=hid (HT1.out.keep hb2)
  have HQ2:=hid hq
  have HUb:Hid (w.heap.size≤ub):=hid (Nat.le_trans HB1.out.size hub)
  have hx2:=(hb2.block _ (block_lt HX1.out)).trans HX1.out
  have hl2:=block_lt hx2
  have d0:=cell_of_heap hx2 0
  have d1:=cell_of_heap hx2 1
  have d2:=cell_of_heap hx2 2
  simp only [List.getElem?_toArray,List.getElem?_cons_zero,List.getElem?_cons_succ] at d0 d1 d2
  clear hb2 hx2 hq hub
  go_wp2_with fail
  go_ret3
  have hba:=(Below.refl w2.heap.size w2).alloc (Nat.le_refl _) (.cells #[.int .i64 0,.int .i64 0,.int .i64 0] 103)
  exact⟨HB2.out.alloc HB2.out.size _,tb,ub,by simp,HT2.out.keep hba,HQ2.out.keep hba,HOk.out,HTb.out,HUb.out⟩
theorem tablesRules_walk (a d:ByteArray) (n:Int) (m0:Int) (w:World) (h0:0 < w.heap.size) (hm:w.cell? ⟨0,0,none⟩=some (.int .i64 m0)) :
  Calls Tryz.prog 6 #[.string a,.string d,.int .i64 n] w fun e w'=>e=.returned (.bool true)∧Below w.heap.size w w':=by
 have HM:Hid (∀W,Below w.heap.size w W→0 < W.heap.size∧W.cell? ⟨0,0,none⟩=some (.int .i64 m0)):=hid (fun W hW=>⟨Nat.lt_of_lt_of_le h0 hW.size,(hW.cell (block_lt_of_cell? _ _ hm)).trans hm⟩)
 have HW:Hid (∀W,Below w.heap.size w W→Calls Tryz.prog 11 #[] W fun e w'=>e=.returned (.bool true)∧Below W.heap.size W w'):=hid (fun W hW=>so_twakes m0 W (HM.out W hW).1 (HM.out W hW).2)
 have HR:=hid (so_lread13 a d m0 w h0 hm)
 unfold LtP at HR
 clear h0 hm
 cases hr:tabR a.data.toList d.data.toList with
 | error p =>
  rw [hr] at HR
  dsimp only at HR
  clear hr
  go_enter Tryz.func6,Tryz.ntmps6
  go_wp2_with (first
   | (go_at_call 10;refine HR.out.mono ?_;rintro e w1 ⟨hb1,rfl⟩;have HB1:=hid hb1;clear hb1)
   | (go_at_call 11;refine (HW.out _ HB1.out).mono ?_;rintro e w2 ⟨rfl,hb2⟩;have HB2:=hid (HB1.out.trans (hb2.mono HB1.out.size));clear hb2)
   | (go_at_call 23;refine (so_tSuffixesNil n _).mono ?_;rintro e w3 ⟨rfl,hb3⟩;have HB3:=hid (HB2.out.trans (hb3.mono HB2.out.size));clear hb3)
   | (go_at_call 24;refine (so_tPrefixesNil n _).mono ?_;rintro e w4 ⟨rfl,hb4⟩;have HB4:=hid (HB3.out.trans (hb4.mono HB3.out.size));clear hb4)
   | (go_at_call 25;refine (so_tSecondsNil n _).mono ?_;rintro e w5 ⟨rfl,hb5⟩;have HB5:=hid (HB4.out.trans (hb5.mono HB4.out.size));clear hb5))
  go_ret
  exact⟨by simp,HB5.out⟩
 | ok p =>
  obtain⟨F,es⟩:=p
  rw [hr] at HR
  dsimp only at HR
  clear hr
  go_enter Tryz.func6,Tryz.ntmps6
  go_upto_region 6 with (first
   | (go_at_call 10;refine HR.out.mono ?_;rintro e w1 ⟨hb1,tb,ub,rfl,ht,hq,hok,-,-⟩;have HB1:=hid hb1;have HT1:=hid ht;have HQ1:=hid hq;have HOk:=hid hok;clear hb1 ht hq hok)
   | (go_at_call 11;refine (HW.out _ HB1.out).mono ?_;rintro e w2 ⟨rfl,hb2⟩;have HB2:=hid (HB1.out.trans (hb2.mono HB1.out.size));have HT2:=hid (HT1.out.keep hb2);have HQ2:=hid (HQ1.out.keep hb2);clear hb2))
  have HSu:Hid (∀W i,Below w2.heap.size w2 W→Calls Tryz.prog 23 #[.pointer (some ⟨tb,0,none⟩),.int .i64 i] W fun e w'=>∃v,e=.returned v∧IS w' v (namedR F ((entD (entryAt es i)).2) 2)∧Below W.heap.size W w'):=hid (fun W i hW=>(so_tSuffixes tb F es i W (HT2.out.keep hW) HOk.out.1 HOk.out.2.1 HOk.out.2.2).mono (by
   rintro e w' ⟨v,rfl,hv,hb⟩
   exact⟨v,rfl,hv.is,hb⟩))
  have HPr:Hid (∀W i,Below w2.heap.size w2 W→Calls Tryz.prog 24 #[.pointer (some ⟨tb,0,none⟩),.int .i64 i] W fun e w'=>∃v,e=.returned v∧IS w' v (namedR F ((entD (entryAt es i)).2) 1)∧Below W.heap.size W w'):=hid (fun W i hW=>(so_tPrefixes tb F es i W (HT2.out.keep hW) HOk.out.1 HOk.out.2.1 HOk.out.2.2).mono (by
   rintro e w' ⟨v,rfl,hv,hb⟩
   exact⟨v,rfl,hv.is,hb⟩))
  have HSe:Hid (∀W i,Below w2.heap.size w2 W→Calls Tryz.prog 25 #[.pointer (some ⟨tb,0,none⟩),.int .i64 i] W fun e w'=>∃v,e=.returned v∧IS w' v (namedR F ((ruleD (ruleAt F i)).next) 2)∧Below W.heap.size W w'):=hid (fun W i hW=>(so_tSeconds tb F es i W (HT2.out.keep hW) HOk.out.1 HOk.out.2.1 HOk.out.2.2).mono (by
   rintro e w' ⟨v,rfl,hv,hb⟩
   exact⟨v,rfl,hv.is,hb⟩))
  have HQs:Hid (∀W i,Below w2.heap.size w2 W→Calls Tryz.prog 27 #[.pointer (some ⟨ub,0,none⟩),.int .i64 i] W fun e w'=>∃v,e=.returned v∧IS w' v (namedR F ((entD (entryAt es i)).2) 2)∧Below W.heap.size W w'):=hid (fun W i hW=>so_qSuffixes ub F es i W (HQ2.out.keep hW) HOk.out.1 (entryAt_set HOk.out.2.2 i))
  have HQp:Hid (∀W i,Below w2.heap.size w2 W→Calls Tryz.prog 28 #[.pointer (some ⟨ub,0,none⟩),.int .i64 i] W fun e w'=>∃v,e=.returned v∧IS w' v (namedR F ((entD (entryAt es i)).2) 1)∧Below W.heap.size W w'):=hid (fun W i hW=>so_qPrefixes ub F es i W (HQ2.out.keep hW) HOk.out.1 (entryAt_set HOk.out.2.2 i))
  have HQe:Hid (∀W i,Below w2.heap.size w2 W→Calls Tryz.prog 29 #[.pointer (some ⟨ub,0,none⟩),.int .i64 i] W fun e w'=>∃v,e=.returned v∧IS w' v (namedR F ((ruleD (ruleAt F i)).next) 2)∧Below W.heap.size W w'):=hid (fun W i hW=>so_qSeconds ub F es i W (HQ2.out.keep hW) HOk.out.1 (ruleAt_set HOk.out.1 HOk.out.2.1 i))
  have HLn:Hid (∀fs kind,(namedR F fs kind).length≤1048576):=hid (fun fs kind=>by
   have h1:=namedR_len F fs kind
   have h2:=HOk.out.1.rls
   omega)
  have HIn:Hid (∀W v u zs,IS W v zs→IS W u zs→zs.length≤1048576→Calls Tryz.prog 26 #[v,u] W fun e w'=>e=.returned (.bool true)∧∃n,w'=W.drewN n):=hid (fun W v u zs h1 h2 h3=>so_tints v u zs W h1 h2 h3)
  obtain⟨rf,A,cp,rs,c0,c12,hrm,-,-,-⟩:=HQ2.out.file
  obtain⟨A1,cp1,xs,c1,hx1,-,-⟩:=HQ2.out.ents
  have hrl:rs.length≤65536:=by
   have h:rs.length=F.rls.length:=by rw [←hrm];simp
   have:=HOk.out.1.rls
   omega
  have hxl:xs.length≤65536:=by
   have h:xs.length=es.length:=by rw [←hx1,entAbs_len]
   have:=HOk.out.2.2.len
   omega
  obtain⟨N,hN⟩:∃N,rs.length=N:=⟨_,rfl⟩
  obtain⟨M,hM⟩:∃M,xs.length=M:=⟨_,rfl⟩
  rw [hN] at c12 hrl
  rw [hM] at c1 hxl
  have hul:ub < w2.heap.size:=block_lt_of_cell? _ _ c0
  have hrfl:rf < w2.heap.size:=block_lt_of_cell? _ _ c12
  clear HR HW HM HT1 HQ1 HB1 hrm hx1 hN hM
  go_wp2_with fail
  go_loopw [10,51] (fun _ x wr=>∃k:Nat,k≤M∧x=.int .i64 k∧Hid (Below w2.heap.size w2 wr)) (fun _ x _=>M - (intOf x).toNat)
  case atStart=>exact⟨0,Nat.zero_le _,rfl,hid (Below.refl _ _)⟩
  case round =>
  obtain⟨i,hi,rfl,HBi⟩:=hrel
  by_cases hil:i < M
  ·have hin:(i:Int) < (M:Int):=by omega
   go_wp2_with (first
    | (have qq:=Bx1.out;clear qq;go_at_call 26;refine (HIn.out _ _ _ _ HWBx1.out HVBx1.out (HLn.out _ _)).mono ?_;rintro e wCx11 ⟨rfl,m,hw⟩;have Cx1:Hid (Below w2.heap.size w2 wCx11):=hid (by rw [hw];exact below_drewN Bx1.out m);clear hw)
    | (have qq:=Ax1.out;clear qq;go_at_call 28;refine (HQp.out _ (i:Int) Ax1.out).mono ?_;rintro e wBx11 ⟨vBx11,rfl,hv,hb⟩;have Bx1:=hid (Ax1.out.trans (hb.mono Ax1.out.size));have HVBx1:=hid hv;have HWBx1:=hid (HVAx1.out.keep hb);clear hv hb)
    | (have qq:=Cx0.out;clear qq;go_at_call 24;refine (HPr.out _ (i:Int) Cx0.out).mono ?_;rintro e wAx11 ⟨vAx11,rfl,hv,hb⟩;have Ax1:=hid (Cx0.out.trans (hb.mono Cx0.out.size));have HVAx1:=hid hv;clear hv hb)
    | (have qq:=Bx0.out;clear qq;go_at_call 26;refine (HIn.out _ _ _ _ HWBx0.out HVBx0.out (HLn.out _ _)).mono ?_;rintro e wCx01 ⟨rfl,m,hw⟩;have Cx0:Hid (Below w2.heap.size w2 wCx01):=hid (by rw [hw];exact below_drewN Bx0.out m);clear hw)
    | (have qq:=Ax0.out;clear qq;go_at_call 27;refine (HQs.out _ (i:Int) Ax0.out).mono ?_;rintro e wBx01 ⟨vBx01,rfl,hv,hb⟩;have Bx0:=hid (Ax0.out.trans (hb.mono Ax0.out.size));have HVBx0:=hid hv;have HWBx0:=hid (HVAx0.out.keep hb);clear hv hb)
    | (go_at_call 23;refine (HSu.out _ (i:Int) HBi.out).mono ?_;rintro e wAx01 ⟨vAx01,rfl,hv,hb⟩;have Ax0:=hid (HBi.out.trans (hb.mono HBi.out.size));have HVAx0:=hid hv;clear hv hb))
   go_roundw
   case rel=>exact⟨i+1,by omega,by go_num,Cx1⟩
   case measure=>simp [intOf];omega
  obtain rfl:i=M:=by omega
  have d0:=(HBi.out.cell (p:=⟨ub,0,none⟩) hul).trans c0
  have d12:=(HBi.out.cell (p:=⟨rf,12,none⟩) hrfl).trans c12
  go_wp2_with fail
  go_loopw [11,81] (fun _ x wr=>∃k:Nat,k≤N∧x=.int .i64 k∧Hid (Below w2.heap.size w2 wr)) (fun _ x _=>N - (intOf x).toNat)
  case atStart=>exact⟨0,Nat.zero_le _,rfl,HBi⟩
  case round =>
  obtain⟨j,hj,rfl,HBj⟩:=hrel
  by_cases hjl:j < N
  ·have hjn:(j:Int) < (N:Int):=by omega
   go_wp2_with (first
    | (have qq:=By0.out;clear qq;go_at_call 26;refine (HIn.out _ _ _ _ HWBy0.out HVBy0.out (HLn.out _ _)).mono ?_;rintro e wCy01 ⟨rfl,m,hw⟩;have Cy0:Hid (Below w2.heap.size w2 wCy01):=hid (by rw [hw];exact below_drewN By0.out m);clear hw)
    | (have qq:=Ay0.out;clear qq;go_at_call 29;refine (HQe.out _ (j:Int) Ay0.out).mono ?_;rintro e wBy01 ⟨vBy01,rfl,hv,hb⟩;have By0:=hid (Ay0.out.trans (hb.mono Ay0.out.size));have HVBy0:=hid hv;have HWBy0:=hid (HVAy0.out.keep hb);clear hv hb)
    | (go_at_call 25;refine (HSe.out _ (j:Int) HBj.out).mono ?_;rintro e wAy01 ⟨vAy01,rfl,hv,hb⟩;have Ay0:=hid (HBj.out.trans (hb.mono HBj.out.size));have HVAy0:=hid hv;clear hv hb))
   go_roundw
   case rel=>exact⟨j+1,by omega,by go_num,Cy0⟩
   case measure=>simp [intOf];omega
  obtain rfl:j=N:=by omega
  go_wp2_with (first
   | (have qq:=Bz2.out;clear qq;go_at_call 26;refine (HIn.out _ _ _ _ HWBz2.out HVBz2.out (HLn.out _ _)).mono ?_;rintro e wCz21 ⟨rfl,m,hw⟩;have Cz2:Hid (Below w2.heap.size w2 wCz21):=hid (by rw [hw];exact below_drewN Bz2.out m);clear hw)
   | (have qq:=Az2.out;clear qq;go_at_call 29;refine (HQe.out _ n Az2.out).mono ?_;rintro e wBz21 ⟨vBz21,rfl,hv,hb⟩;have Bz2:=hid (Az2.out.trans (hb.mono Az2.out.size));have HVBz2:=hid hv;have HWBz2:=hid (HVAz2.out.keep hb);clear hv hb)
   | (have qq:=Cz1.out;clear qq;go_at_call 25;refine (HSe.out _ n Cz1.out).mono ?_;rintro e wAz21 ⟨vAz21,rfl,hv,hb⟩;have Az2:=hid (Cz1.out.trans (hb.mono Cz1.out.size));have HVAz2:=hid hv;clear hv hb)
   | (have qq:=Bz1.out;clear qq;go_at_call 26;refine (HIn.out _ _ _ _ HWBz1.out HVBz1.out (HLn.out _ _)).mono ?_;rintro e wCz11 ⟨rfl,m,hw⟩;have Cz1:Hid (Below w2.heap.size w2 wCz11):=hid (by rw [hw];exact below_drewN Bz1.out m);clear hw)
   | (have qq:=Az1.out;clear qq;go_at_call 28;refine (HQp.out _ n Az1.out).mono ?_;rintro e wBz11 ⟨vBz11,rfl,hv,hb⟩;have Bz1:=hid (Az1.out.trans (hb.mono Az1.out.size));have HVBz1:=hid hv;have HWBz1:=hid (HVAz1.out.keep hb);clear hv hb)
   | (have qq:=Cz0.out;clear qq;go_at_call 24;refine (HPr.out _ n Cz0.out).mono ?_;rintro e wAz11 ⟨vAz11,rfl,hv,hb⟩;have Az1:=hid (Cz0.out.trans (hb.mono Cz0.out.size));have HVAz1:=hid hv;clear hv hb)
   | (have qq:=Bz0.out;clear qq;go_at_call 26;refine (HIn.out _ _ _ _ HWBz0.out HVBz0.out (HLn.out _ _)).mono ?_;rintro e wCz01 ⟨rfl,m,hw⟩;have Cz0:Hid (Below w2.heap.size w2 wCz01):=hid (by rw [hw];exact below_drewN Bz0.out m);clear hw)
   | (have qq:=Az0.out;clear qq;go_at_call 27;refine (HQs.out _ n Az0.out).mono ?_;rintro e wBz01 ⟨vBz01,rfl,hv,hb⟩;have Bz0:=hid (Az0.out.trans (hb.mono Az0.out.size));have HVBz0:=hid hv;have HWBz0:=hid (HVAz0.out.keep hb);clear hv hb)
   | (go_at_call 23;refine (HSu.out _ n HBj.out).mono ?_;rintro e wAz01 ⟨vAz01,rfl,hv,hb⟩;have Az0:=hid (HBj.out.trans (hb.mono HBj.out.size));have HVAz0:=hid hv;clear hv hb))
  go_ret
  exact⟨by simp,HB2.out.trans (Cz2.out.mono HB2.out.size)⟩
theorem tablesRules_sh (a d:ByteArray) (n:Int) (W:World) (h:W.ShapedOpen Tryz.prog) :
  Calls Tryz.prog 6 #[.string a,.string d,.int .i64 n] W fun e w'=>e=.returned (.bool true)∧Below W.heap.size W w':=by
 obtain⟨m,hm⟩:=maxLen_of W h
 exact tablesRules_walk a d n m W (Nat.lt_of_le_of_lt (Nat.zero_le _) (block_lt_of_cell? _ _ hm)) hm
end Go.Proofs.YtfkblpjfknfgbaaGreatDoor
