import Derived.BigQuiet
import Derived.Test.YtfkblpjfknfgbaaGreatDoorRows
import Derived.Test.YtfkblpjfknfgbaaGreatDoorT16
import Derived.Test.YtfkblpjfknfgbaaGreatDoorS3
import Derived.WalkLawsBesides
set_option linter.unusedVariables false
set_option linter.unusedSimpArgs false
set_option maxHeartbeats 8000000
set_option maxRecDepth 100000
open Go.Maps Go.RowKit
open Go.Lib (hid cell_of_heap)
open Go.World (block_lt_of_cell?)
namespace Go.Proofs.YtfkblpjfknfgbaaGreatDoor
theorem so_tPrefixes (tb:Nat) (F:Fl) (es:List En) (n:Int) (w:World) (h:TabAt w tb F es) (hok:FlOk F) (ht:TbInv F) (hes:EsOk es) :
  Calls Tryz.prog 24 #[.pointer (some ⟨tb,0,none⟩),.int .i64 n] w fun e w'=>∃v',e=.returned v'∧IN w.heap.size w' v' (namedR F ((entD (entryAt es n)).2) 1)∧Below w.heap.size w w':=by
 have h8:=entryAt_set hes n
 have he:=so_tEntry tb F es n w h hes;unfold EntT at he;obtain⟨b,hb⟩:∃b,(entryAt es n).isSome=b:=⟨_,rfl⟩;obtain⟨x,hx⟩:∃x,entD (entryAt es n)=x:=⟨_,rfl⟩;rw [hb,hx] at he;rw [hx] at h8 ⊢;obtain⟨s,z⟩:=x
 skip
 dsimp only at he h8 ⊢;have HE:=hid he;have HS:=hid h8;have HT:=hid h;have HOk:=hid hok;have HTb:=hid ht;clear he h8 h hok ht hes hx hb
 go_enter Tryz.func24,Tryz.ntmps24
 go_wp2_with (first
  | (go_at_call 13;refine HE.o.mono ?_;rintro e w1 ⟨v1,rfl,hfn,hb1⟩;obtain⟨p1,c1,rfl⟩:∃p c,v1=.slice p z.length c:=(by obtain⟨p,c,hv,-⟩:=hfn;exact⟨p,c,hv⟩);have hba:=hb1.alloc hb1.size (.cells #[.string s,.slice p1 z.length c1] 35);have HB1:=hid hba;have HF1:=hid (hfn.fs.keep ((Below.refl _ _).alloc (Nat.le_refl _) (.cells #[.string s,.slice p1 z.length c1] 35)));clear hfn hb1 hba)
  | (go_at_call 54;refine (so_named tb F es _ z 1 _ (HT.o.keep HB1.o) HTb.o.1 HOk.o HF1.o HS.o).mono ?_;rintro e w2 ⟨v2,rfl,hin,hb2⟩;have HB2:=hid (HB1.o.trans (hb2.mono HB1.o.size));have HI:=hid (hin.mono HB1.o.size);clear hin hb2))
 go_ret
 exact⟨_,rfl,HI.o,HB2.o⟩
theorem so_tSeconds (tb:Nat) (F:Fl) (es:List En) (n:Int) (w:World) (h:TabAt w tb F es) (hok:FlOk F) (ht:TbInv F) (hes:EsOk es) :
  Calls Tryz.prog 25 #[.pointer (some ⟨tb,0,none⟩),.int .i64 n] w fun e w'=>∃v',e=.returned v'∧IN w.heap.size w' v' (namedR F ((ruleD (ruleAt F n)).next) 2)∧Below w.heap.size w w':=by
 have h8:=ruleAt_set hok ht n
 have he:=so_tRule tb F es n w h hok;unfold RulT at he;obtain⟨b,hb⟩:∃b,(ruleAt F n).isSome=b:=⟨_,rfl⟩;obtain⟨x,hx⟩:∃x,ruleD (ruleAt F n)=x:=⟨_,rfl⟩;rw [hb,hx] at he;rw [hx] at h8 ⊢;obtain⟨rk,rf,rc,t,Q,R,z,rli⟩:=x;unfold rlV at he;dsimp only at he h8 ⊢;have HE:=hid he;have HS:=hid h8;have HT:=hid h;have HOk:=hid hok;have HTb:=hid ht;clear he h8 h hok ht hes hx hb
 go_enter Tryz.func25,Tryz.ntmps25
 go_wp2_with (first
  | (go_at_call 12;refine HE.o.mono ?_;rintro e w1 ⟨v1,rfl,hfn,hb1⟩;obtain⟨p1,c1,rfl⟩:∃p c,v1=.slice p z.length c:=(by obtain⟨p,c,hv,-⟩:=hfn;exact⟨p,c,hv⟩);have hba:=hb1.alloc hb1.size (.cells #[.int .i64 rk,.int .u16 rf,.bool rc,.string t,.string Q,.string R,.slice p1 z.length c1] 31);have HB1:=hid hba;have HF1:=hid (hfn.fs.keep ((Below.refl _ _).alloc (Nat.le_refl _) (.cells #[.int .i64 rk,.int .u16 rf,.bool rc,.string t,.string Q,.string R,.slice p1 z.length c1] 31)));clear hfn hb1 hba)
  | (go_at_call 54;refine (so_named tb F es _ z 2 _ (HT.o.keep HB1.o) HTb.o.1 HOk.o HF1.o HS.o).mono ?_;rintro e w2 ⟨v2,rfl,hin,hb2⟩;have HB2:=hid (HB1.o.trans (hb2.mono HB1.o.size));have HI:=hid (hin.mono HB1.o.size);clear hin hb2))
 go_ret
 exact⟨_,rfl,HI.o,HB2.o⟩
theorem so_qtNext (ub:Nat) (F:Fl) (es:List En) (n:Int) (w:World) (h:QTabAt w ub F es) :
  Calls Tryz.prog 56 #[.pointer (some ⟨ub,0,none⟩),.int .i64 n] w fun e w'=>∃v,e=.returned v∧IS w v (ruleD (ruleAt F n)).next∧w=w':=by
 obtain⟨rf,A,cp,rs,c0,c12,hrm,hx2,hx3,-⟩:=h.file
 have hxl:rs.length=F.rls.length:=by rw [←hrm];simp
 obtain⟨-,A',cp',hv,hcap,h9⟩:=hx2
 cases hv
 clear h
 by_cases hin:0≤n∧n < (rs.length:Int)
 ·obtain⟨k,rfl⟩:∃k:Nat,n=k:=⟨n.toNat,by omega⟩
  have hk:k < rs.length:=by omega
  obtain⟨g,o,rfl,hc⟩:=h9.resolve_left (by omega)
  obtain⟨-,-,-,-,-,-,q6,-⟩:=qrls_at rs k hk;have d6:=hc _ _ q6;rw [←Nat.add_assoc] at d6;have hfs:=hx3 _ (List.getElem_mem hk)
  have hke:k < F.rls.length:=by omega
  have hek:F.rls[k]=rs[k].1:=by simp [←hrm]
  have HR:Hid ((ruleD (ruleAt F (k:Int))).next=rs[k].1.next):=hid (by rw [ruleAt_in hke,hek];rfl)
  obtain⟨x,hx⟩:∃x,rs[k]=x:=⟨_,rfl⟩;obtain⟨⟨rk,rfl',rc,t,Q,R,z,rli⟩,u⟩:=x;rw [hx] at d6 hfs HR;dsimp only at d6 hfs HR;have HFs:=hid hfs;obtain⟨pu,cu,rfl,-⟩:=hfs;obtain⟨hn0,hn1⟩:=hin;obtain⟨N,hN⟩:∃N,rs.length=N:=⟨_,rfl⟩;rw [hN] at c12 hn1 hcap;clear h9 hc q6 hrm hx3 hxl hke hek hx hN hk
  go_enter Tryz.func56,Tryz.ntmps56
  go_wp2_with fail
  go_ret
  exact⟨_,rfl,by rw [HR.o];exact HFs.o,rfl⟩
 have HR:=hid (ruleAt_out (F:=F) (n:=n) (by rw [←hxl];exact hin))
 obtain⟨N,hN⟩:∃N,rs.length=N:=⟨_,rfl⟩;rw [hN] at c12 hin;clear h9 hrm hx3 hxl hN hcap
 have key:(n < 0∨¬n < 0∧¬n < (N:Int)):=by omega
 rcases key with h0 | ⟨h0,h2⟩
 all_goals
  go_enter Tryz.func56,Tryz.ntmps56
  go_wp2_with fail
  go_ret
  exact⟨_,rfl,by rw [HR.o];exact IS.nil _,rfl⟩
theorem so_qSuffixes (ub:Nat) (F:Fl) (es:List En) (n:Int) (w:World) (h:QTabAt w ub F es) (hok:FlOk F) (hs:SetOk ((entD (entryAt es n)).2)) :
  Calls Tryz.prog 27 #[.pointer (some ⟨ub,0,none⟩),.int .i64 n] w fun e w'=>∃v',e=.returned v'∧IS w' v' (namedR F ((entD (entryAt es n)).2) 2)∧Below w.heap.size w w':=by
 have HF:=hid (so_qtFlags ub F es n w h)
 have HN:Hid (∀v,IS w v ((entD (entryAt es n)).2)→Calls Tryz.prog 55 #[.pointer (some ⟨ub,0,none⟩),v,.int .i64 2] w fun e w'=>∃v',e=.returned v'∧IS w' v' (namedR F ((entD (entryAt es n)).2) 2)∧Below w.heap.size w w'):=hid (fun v hv=>so_qNamed ub F es v _ 2 w h hok hv hs.nodup hs.len)
 clear h hok hs
 go_enter Tryz.func27,Tryz.ntmps27
 go_wp2_with (first
  | (go_at_call 53;refine HF.o.mono ?_;rintro e w1 ⟨v1,rfl,hv,rfl⟩;have HV:=hid hv;clear hv)
  | (go_at_call 55;refine (HN.o _ HV.o).mono ?_;rintro e w2 ⟨v2,rfl,hv,hb⟩;have HI:=hid hv;have HB:=hid hb;clear hv hb))
 go_ret
 exact⟨_,rfl,HI.o,HB.o⟩
theorem so_qPrefixes (ub:Nat) (F:Fl) (es:List En) (n:Int) (w:World) (h:QTabAt w ub F es) (hok:FlOk F) (hs:SetOk ((entD (entryAt es n)).2)) :
  Calls Tryz.prog 28 #[.pointer (some ⟨ub,0,none⟩),.int .i64 n] w fun e w'=>∃v',e=.returned v'∧IS w' v' (namedR F ((entD (entryAt es n)).2) 1)∧Below w.heap.size w w':=by
 have HF:=hid (so_qtFlags ub F es n w h)
 have HN:Hid (∀v,IS w v ((entD (entryAt es n)).2)→Calls Tryz.prog 55 #[.pointer (some ⟨ub,0,none⟩),v,.int .i64 1] w fun e w'=>∃v',e=.returned v'∧IS w' v' (namedR F ((entD (entryAt es n)).2) 1)∧Below w.heap.size w w'):=hid (fun v hv=>so_qNamed ub F es v _ 1 w h hok hv hs.nodup hs.len)
 clear h hok hs
 go_enter Tryz.func28,Tryz.ntmps28
 go_wp2_with (first
  | (go_at_call 53;refine HF.o.mono ?_;rintro e w1 ⟨v1,rfl,hv,rfl⟩;have HV:=hid hv;clear hv)
  | (go_at_call 55;refine (HN.o _ HV.o).mono ?_;rintro e w2 ⟨v2,rfl,hv,hb⟩;have HI:=hid hv;have HB:=hid hb;clear hv hb))
 go_ret
 exact⟨_,rfl,HI.o,HB.o⟩
theorem so_qSeconds (ub:Nat) (F:Fl) (es:List En) (n:Int) (w:World) (h:QTabAt w ub F es) (hok:FlOk F) (hs:SetOk ((ruleD (ruleAt F n)).next)) :
  Calls Tryz.prog 29 #[.pointer (some ⟨ub,0,none⟩),.int .i64 n] w fun e w'=>∃v',e=.returned v'∧IS w' v' (namedR F ((ruleD (ruleAt F n)).next) 2)∧Below w.heap.size w w':=by
 have HF:=hid (so_qtNext ub F es n w h)
 have HN:Hid (∀v,IS w v ((ruleD (ruleAt F n)).next)→Calls Tryz.prog 55 #[.pointer (some ⟨ub,0,none⟩),v,.int .i64 2] w fun e w'=>∃v',e=.returned v'∧IS w' v' (namedR F ((ruleD (ruleAt F n)).next) 2)∧Below w.heap.size w w'):=hid (fun v hv=>so_qNamed ub F es v _ 2 w h hok hv hs.nodup hs.len)
 clear h hok hs
 go_enter Tryz.func29,Tryz.ntmps29
 go_wp2_with (first
  | (go_at_call 56;refine HF.o.mono ?_;rintro e w1 ⟨v1,rfl,hv,rfl⟩;have HV:=hid hv;clear hv)
  | (go_at_call 55;refine (HN.o _ HV.o).mono ?_;rintro e w2 ⟨v2,rfl,hv,hb⟩;have HI:=hid hv;have HB:=hid hb;clear hv hb))
 go_ret
 exact⟨_,rfl,HI.o,HB.o⟩
theorem so_flagsAre (v u:Value) (z:List Int) (w:World) (h:FS w v z) (hu:IS w u z) (hb:∀x∈z,0≤x∧x≤65535) (hbig:z.length≤1048576) :
  Calls Tryz.prog 15 #[v,u] w fun e w'=>e=.returned (.bool true)∧∃n,w'=w.drewN n:=by
 obtain⟨p,c,rfl,hcap,hs⟩:=h
 obtain⟨p2,c2,rfl,hcap2,hs2⟩:=hu;have hA:=hid hs;have hB:=hid hs2;have hBd:=hid hb;clear hs hs2 hb
 go_enter Tryz.func15,Tryz.ntmps15
 go_wp2_with fail
 go_loopw [5,13] (fun _ i wr=>∃k m:Nat,k≤z.length∧i=.int .i64 k∧wr=w.drewN m) (fun _ i _=>z.length - (intOf i).toNat)
 case atStart=>exact⟨0,0,Nat.zero_le _,rfl,rfl⟩
 case round =>
 obtain⟨k,m,hk,rfl,rfl⟩:=hrel
 by_cases hlt:k < z.length
 ·obtain⟨b,off,rfl,hc⟩:=hA.out.resolve_left (by omega)
  obtain⟨b2,off2,rfl,hc2⟩:=hB.out.resolve_left (by omega)
  have c1:=hc k hlt;have c2':=hc2 k hlt;clear hc hc2
  have he:z.getD k 0=z[k]:=by simp [List.getD,hlt]
  obtain⟨x0,x1⟩:=hBd.out z[k] (List.getElem_mem hlt);rw [he] at c1 c2'
  generalize z[k]=x at *
  have hwx:IntKind.i64.wrap x=x:=by rw [IntKind.wrap_i64];omega
  clear he
  go_wp2_with fail
  go_quiet (fail)
  go_wp2_with fail
  go_roundw
  case rel=>exact⟨k+1,_,by omega,by go_num,rfl⟩
  case measure=>simp [intOf];omega
 obtain rfl:k=z.length:=by omega
 go_wp2_with fail
 go_ret
 exact⟨rfl,_,rfl⟩
theorem so_ruleIs (r:Rl) (nv nu:Value) (w:World) (h:FS w nv r.next) (hu:IS w nu r.next) (hr:0≤r.flag∧r.flag≤65535) (hb:∀x∈r.next,0≤x∧x≤65535) (hbig:r.next.length≤1048576) :
  Calls Tryz.prog 14 #[rlV r nv,.agg (qrl r nu)] w fun e w'=>e=.returned (.bool true)∧Below w.heap.size w w':=by
 have HS:Hid (∀W,Below w.heap.size w W→Calls Tryz.prog 15 #[nv,nu] W fun e w'=>e=.returned (.bool true)∧∃n,w'=W.drewN n):=hid (fun W hW=>so_flagsAre nv nu r.next W (h.keep hW) (hu.keep hW) hb hbig)
 obtain⟨p,c,rfl,-⟩:=h;obtain⟨p2,c2,rfl,-⟩:=hu;obtain⟨k,fl,cr,st,ad,cd,nx,ln⟩:=r;unfold rlV qrl;dsimp only at *;obtain⟨x0,x1⟩:=hr
 have hwx:IntKind.i64.wrap fl=fl:=by rw [IntKind.wrap_i64];omega
 clear hb
 go_enter Tryz.func14,Tryz.ntmps14
 go_wp2_with (go_at_call 15;refine (HS.o _ (((Below.refl _ _).alloc (Nat.le_refl _) _).alloc (by simp) _)).mono ?_;rintro e w5 ⟨rfl,n,hw5⟩;have HW5:=hid hw5;clear hw5)
 go_ret
 exact⟨by simp,by rw [HW5.o];exact below_drewN (((Below.refl _ _).alloc (Nat.le_refl _) _).alloc (by simp) _) _⟩
def LtP (r:Except (Int×Int×Int) (Fl×List En)) (w:World) (e:Ending) (w':World):Prop:=Below w.heap.size w w'∧match r with
 | .error _=>e=.returned (.tuple #[.pointer none,.pointer none,.bool true])
 | .ok p=>∃tb ub,e=.returned (.tuple #[.pointer (some ⟨tb,0,none⟩),.pointer (some ⟨ub,0,none⟩),.bool true])∧TabAt w' tb p.1 p.2∧QTabAt w' ub p.1 p.2∧(FlOk p.1∧TbInv p.1∧EsOk p.2)∧w.heap.size≤tb∧w.heap.size≤ub
theorem so_lread13 (a d:ByteArray) (m0:Int) (w:World) (h0:0 < w.heap.size) (hm:w.cell? ⟨0,0,none⟩=some (.int .i64 m0)) :
  Calls Tryz.prog 10 #[.string a,.string d] w (LtP (tabR a.data.toList d.data.toList) w):=by
 have HR:=hid (so_tabRead a d m0 w h0 hm)
 have HQ:Hid (∀W,Calls Tryz.prog 39 #[.string a,.string d] W (QTabP (tabR a.data.toList d.data.toList) W)):=hid (fun W=>so_qtabRead a d W)
 unfold TabP at HR;unfold QTabP at HQ;unfold LtP;clear h0 hm
 cases hr:tabR a.data.toList d.data.toList with
 | error p =>
  obtain⟨k,l,c⟩:=p
  rw [hr] at HR HQ;dsimp only at HR HQ;clear hr
  go_enter Tryz.func10,Tryz.ntmps10
  go_wp2_with fail
  refine HR.o.mono ?_
  rintro e w1 ⟨hb1,rfl⟩
  have HB1:=hid (hb1.alloc hb1.size (.cells #[.int .i64 k,.int .i64 l,.int .i64 c] 60));have HX1:=hid (heap_alloc_new w1 (.cells #[.int .i64 k,.int .i64 l,.int .i64 c] 60));clear hb1
  go_wp2_with fail
  refine (HQ.o _).mono ?_
  rintro e w2 ⟨hb2,rfl⟩
  have HB2:=hid (HB1.o.trans (hb2.mono HB1.o.size));have hx2:=(hb2.block _ (block_lt HX1.o)).trans HX1.o;have hl2:=block_lt hx2;have d0:=cell_of_heap hx2 0;have d1:=cell_of_heap hx2 1;have d2:=cell_of_heap hx2 2
  simp only [List.getElem?_toArray,List.getElem?_cons_zero,List.getElem?_cons_succ] at d0 d1 d2
  clear hb2 hx2
  go_wp2_with fail
  go_ret3
  exact⟨HB2.o.alloc HB2.o.size _,by simp⟩
 | ok p =>
  obtain⟨F,es⟩:=p
  rw [hr] at HR HQ;dsimp only at HR HQ;clear hr
  go_enter Tryz.func10,Tryz.ntmps10
  go_wp2_with fail
  refine HR.o.mono ?_
  rintro e w1 ⟨hb1,tb,rfl,ht,hok,htb⟩
  have HB1:=hid (hb1.alloc hb1.size (.cells #[.int .i64 0,.int .i64 0,.int .i64 0] 60));have HX1:=hid (heap_alloc_new w1 (.cells #[.int .i64 0,.int .i64 0,.int .i64 0] 60));have HT1:=hid (ht.keep ((Below.refl _ _).alloc (Nat.le_refl _) (.cells #[.int .i64 0,.int .i64 0,.int .i64 0] 60)));have HOk:=hid hok;have HTb:=hid htb;clear hb1 ht hok htb
  go_wp2_with fail
  refine (HQ.o _).mono ?_
  rintro e w2 ⟨hb2,ub,rfl,hq,hub⟩
  have HB2:=hid (HB1.o.trans (hb2.mono HB1.o.size));have HT2:=hid (HT1.o.keep hb2);have HQ2:=hid hq;have HUb:Hid (w.heap.size≤ub):=hid (Nat.le_trans HB1.o.size hub);have hx2:=(hb2.block _ (block_lt HX1.o)).trans HX1.o;have hl2:=block_lt hx2;have d0:=cell_of_heap hx2 0;have d1:=cell_of_heap hx2 1;have d2:=cell_of_heap hx2 2
  simp only [List.getElem?_toArray,List.getElem?_cons_zero,List.getElem?_cons_succ] at d0 d1 d2
  clear hb2 hx2 hq hub
  go_wp2_with fail
  go_ret3
  have hba:=(Below.refl w2.heap.size w2).alloc (Nat.le_refl _) (.cells #[.int .i64 0,.int .i64 0,.int .i64 0] 103)
  exact⟨HB2.o.alloc HB2.o.size _,tb,ub,by simp,HT2.o.keep hba,HQ2.o.keep hba,HOk.o,HTb.o,HUb.o⟩
theorem tb_flag {F:Fl} (hok:FlOk F) (ht:TbInv F) {n:Nat} (hn:n < F.rls.length):0≤F.rls[n].flag∧F.rls[n].flag≤65535:=by
 obtain⟨c,hc,h1,h2⟩:=ht.1.2 n hn
 have hm:=List.mem_of_find?_eq_some hc
 have hf:c.flag=F.rls[n].flag:=by simpa using List.find?_some hc
 have:=hok.flags c hm
 omega
def WrA (B:Nat) (W:World) (p:Option Addr) (n:Nat):Prop:=n=0∨∃b off,p=some ⟨b,off,none⟩∧B≤b∧∀j,j < n→(∃u,W.cell? ⟨b,off+j,none⟩=some u)∧W.frozen? ⟨b,off+j,none⟩=false
theorem WrA.below {B n:Nat} {W W':World} {p:Option Addr} (h:WrA B W p n) (hb:Below W.heap.size W W'):WrA B W' p n:=h.imp id (by
 rintro⟨b,off,hp,hB,h2⟩
 refine⟨b,off,hp,hB,fun j hj=>?_⟩
 obtain⟨⟨u,hu⟩,hf⟩:=h2 j hj;have hl:=block_lt_of_cell? _ _ hu
 exact⟨⟨u,(hb.cell hl).trans hu⟩,(hb.frozen (p:=⟨b,off+j,none⟩) hl).trans hf⟩)
theorem WrA.set {B n:Nat} {W:World} {p:Option Addr} (h:WrA B W p n) (a:Addr) (v:Value):WrA B (W.setCell a v) p n:=h.imp id (by
 rintro⟨b,off,hp,hB,h2⟩
 refine⟨b,off,hp,hB,fun j hj=>?_⟩
 obtain⟨⟨u,hu⟩,hf⟩:=h2 j hj
 exact⟨cell?_setCell_some hu,by rw [World.frozen?_setCell];exact hf⟩)
theorem WrA.fn {B:Nat} {W:World} {p:Option Addr} {n c:Nat} {z:List Int} (h:FN B W (.slice p n c) z):WrA B W p n:=by
 obtain⟨p',c',hv,hc,h2⟩:=h
 cases hv
 refine h2.imp id ?_
 rintro⟨b,off,hp,hB,h3⟩
 refine⟨b,off,hp,hB,fun j hj=>?_⟩
 obtain⟨h4,h5⟩:=h3 j (by simpa using hj)
 exact⟨⟨_,h4⟩,h5⟩
theorem WrA.in_ {B:Nat} {W:World} {p:Option Addr} {n c:Nat} {z:List Int} (h:IN B W (.slice p n c) z):WrA B W p n:=by
 obtain⟨p',c',hv,hc,h2⟩:=h
 cases hv
 refine h2.imp id ?_
 rintro⟨b,off,hp,hB,h3⟩
 refine⟨b,off,hp,hB,fun j hj=>?_⟩
 obtain⟨h4,h5⟩:=h3 j (by simpa using hj)
 exact⟨⟨_,h4⟩,h5⟩
theorem WrA.lt {B n:Nat} {W:World} {g o:Nat} (h:WrA B W (some ⟨g,o,none⟩) n) (hn:0 < n):g < W.heap.size:=by
 obtain⟨b,off,hp,-,h2⟩:=h.resolve_left (by omega)
 cases hp
 obtain⟨⟨u,hu⟩,-⟩:=h2 0 hn
 exact block_lt_of_cell? _ _ hu
theorem WrA.mono {B B' n:Nat} {W:World} {p:Option Addr} (h:WrA B W p n) (hB:B'≤B):WrA B' W p n:=h.imp id (by
 rintro⟨b,off,hp,h1,h2⟩
 exact⟨b,off,hp,Nat.le_trans hB h1,h2⟩)
theorem IN.sl {B:Nat} {W:World} {v:Value} {z:List Int} (h:IN B W v z):∃p c,v=.slice p z.length c:=by
 obtain⟨p,c,hv,-⟩:=h
 exact⟨p,c,hv⟩
theorem FN.sl {B:Nat} {W:World} {v:Value} {z:List Int} (h:FN B W v z):∃p c,v=.slice p z.length c:=by
 obtain⟨p,c,hv,-⟩:=h
 exact⟨p,c,hv⟩
structure KpM (w2 W:World) (xb1 xb:Nat) (X Y:Obj) (p5 pa pb:Option Addr) (n5 na nb:Nat):Prop where
 base:Below w2.heap.size w2 W
 want:W.heap[xb1]?=some Y
 x:W.heap[xb]?=some X
 f:WrA (xb1+1) W p5 n5
 fu:∀g o,p5=some ⟨g,o,none⟩→0 < n5→g < xb
 a:WrA (xb+1) W pa na
 b:WrA (xb+1) W pb nb
 lo:w2.heap.size≤xb1
 lt:xb1 < xb
theorem KpM.set {w2 W:World} {xb1 xb:Nat} {X Y:Obj} {p5 pa pb:Option Addr} {n5 na nb:Nat} (h:KpM w2 W xb1 xb X Y p5 pa pb n5 na nb) (g j:Nat) (v:Value) (h1:xb1 < g) (h2:g≠xb):KpM w2 (W.setCell ⟨g,j,none⟩ v) xb1 xb X Y p5 pa pb n5 na nb :=
 ⟨h.base.setCell (by have:=h.lo;simp;omega) _,by rw [heap_setCell_other _ ⟨g,j,none⟩ xb1 _ (by simp;omega)];exact h.want,by rw [heap_setCell_other _ ⟨g,j,none⟩ xb _ (by simp;omega)];exact h.x,h.f.set _ _,h.fu,h.a.set _ _,h.b.set _ _,h.lo,h.lt⟩
theorem tablesKeeps_walk (a d:ByteArray) (m0:Int) (w:World) (h0:0 < w.heap.size) (hm:w.cell? ⟨0,0,none⟩=some (.int .i64 m0)) :
  Calls Tryz.prog 7 #[.string a,.string d] w fun e w'=>e=.returned (.bool true)∧Below w.heap.size w w':=by
 have HM:Hid (∀W,Below w.heap.size w W→0 < W.heap.size∧W.cell? ⟨0,0,none⟩=some (.int .i64 m0)):=hid (fun W hW=>⟨Nat.lt_of_lt_of_le h0 hW.size,(hW.cell (block_lt_of_cell? _ _ hm)).trans hm⟩)
 have HW:Hid (∀W,Below w.heap.size w W→Calls Tryz.prog 11 #[] W fun e w'=>e=.returned (.bool true)∧Below W.heap.size W w'):=hid (fun W hW=>so_twakes m0 W (HM.o W hW).1 (HM.o W hW).2)
 have HR:=hid (so_lread13 a d m0 w h0 hm);unfold LtP at HR;clear h0 hm
 cases hr:tabR a.data.toList d.data.toList with
 | error p =>
  rw [hr] at HR
  dsimp only at HR;clear hr
  go_enter Tryz.func7,Tryz.ntmps7
  go_wp2_with (first
   | (go_at_call 10;refine HR.o.mono ?_;rintro e w1 ⟨hb1,rfl⟩;have HB1:=hid hb1;clear hb1)
   | (go_at_call 11;refine (HW.o _ HB1.o).mono ?_;rintro e w2 ⟨rfl,hb2⟩;have HB2:=hid (HB1.o.trans (hb2.mono HB1.o.size));clear hb2))
  go_ret
  exact⟨by simp,HB2.o⟩
 | ok p =>
  obtain⟨F,es⟩:=p
  rw [hr] at HR;dsimp only at HR;clear hr
  go_enter Tryz.func7,Tryz.ntmps7
  go_upto_region 6 with (first
   | (go_at_call 10;refine HR.o.mono ?_;rintro e w1 ⟨hb1,tb,ub,rfl,ht,hq,hok,-,-⟩;have HB1:=hid hb1;have HT1:=hid ht;have HQ1:=hid hq;have HOk:=hid hok;clear hb1 ht hq hok)
   | (go_at_call 11;refine (HW.o _ HB1.o).mono ?_;rintro e w2 ⟨rfl,hb2⟩;have HB2:=hid (HB1.o.trans (hb2.mono HB1.o.size));have HT2:=hid (HT1.o.keep hb2);have HQ2:=hid (HQ1.o.keep hb2);clear hb2))
  have HSu:Hid (∀W i,Below w2.heap.size w2 W→Calls Tryz.prog 23 #[.pointer (some ⟨tb,0,none⟩),.int .i64 i] W fun e w'=>∃v,e=.returned v∧IN W.heap.size w' v (namedR F ((entD (entryAt es i)).2) 2)∧Below W.heap.size W w'):=hid (fun W i hW=>so_tSuffixes tb F es i W (HT2.o.keep hW) HOk.o.1 HOk.o.2.1 HOk.o.2.2)
  have HPr:Hid (∀W i,Below w2.heap.size w2 W→Calls Tryz.prog 24 #[.pointer (some ⟨tb,0,none⟩),.int .i64 i] W fun e w'=>∃v,e=.returned v∧IN W.heap.size w' v (namedR F ((entD (entryAt es i)).2) 1)∧Below W.heap.size W w'):=hid (fun W i hW=>so_tPrefixes tb F es i W (HT2.o.keep hW) HOk.o.1 HOk.o.2.1 HOk.o.2.2)
  have HSe:Hid (∀W i,Below w2.heap.size w2 W→Calls Tryz.prog 25 #[.pointer (some ⟨tb,0,none⟩),.int .i64 i] W fun e w'=>∃v,e=.returned v∧IN W.heap.size w' v (namedR F ((ruleD (ruleAt F i)).next) 2)∧Below W.heap.size W w'):=hid (fun W i hW=>so_tSeconds tb F es i W (HT2.o.keep hW) HOk.o.1 HOk.o.2.1 HOk.o.2.2)
  have HQs:Hid (∀W i,Below w2.heap.size w2 W→Calls Tryz.prog 27 #[.pointer (some ⟨ub,0,none⟩),.int .i64 i] W fun e w'=>∃v,e=.returned v∧IS w' v (namedR F ((entD (entryAt es i)).2) 2)∧Below W.heap.size W w'):=hid (fun W i hW=>so_qSuffixes ub F es i W (HQ2.o.keep hW) HOk.o.1 (entryAt_set HOk.o.2.2 i))
  have HQp:Hid (∀W i,Below w2.heap.size w2 W→Calls Tryz.prog 28 #[.pointer (some ⟨ub,0,none⟩),.int .i64 i] W fun e w'=>∃v,e=.returned v∧IS w' v (namedR F ((entD (entryAt es i)).2) 1)∧Below W.heap.size W w'):=hid (fun W i hW=>so_qPrefixes ub F es i W (HQ2.o.keep hW) HOk.o.1 (entryAt_set HOk.o.2.2 i))
  have HQe:Hid (∀W i,Below w2.heap.size w2 W→Calls Tryz.prog 29 #[.pointer (some ⟨ub,0,none⟩),.int .i64 i] W fun e w'=>∃v,e=.returned v∧IS w' v (namedR F ((ruleD (ruleAt F i)).next) 2)∧Below W.heap.size W w'):=hid (fun W i hW=>so_qSeconds ub F es i W (HQ2.o.keep hW) HOk.o.1 (ruleAt_set HOk.o.1 HOk.o.2.1 i))
  have HLn:Hid (∀fs kind,(namedR F fs kind).length≤65536):=hid (fun fs kind=>by
   have h1:=namedR_len F fs kind
   have h2:=HOk.o.1.rls
   omega)
  have HIn:Hid (∀W v u z,IS W v z→IS W u z→z.length≤65536→Calls Tryz.prog 26 #[v,u] W fun e w'=>e=.returned (.bool true)∧∃n,w'=W.drewN n):=hid (fun W v u z h1 h2 h3=>so_tints v u z W h1 h2 (by omega))
  have HRu:Hid (∀W i,Below w2.heap.size w2 W→Calls Tryz.prog 12 #[.pointer (some ⟨tb,0,none⟩),.int .i64 i] W (RulT (ruleAt F i) W)):=hid (fun W i hW=>so_tRule tb F es i W (HT2.o.keep hW) HOk.o.1)
  have HEn:Hid (∀W i,Below w2.heap.size w2 W→Calls Tryz.prog 13 #[.pointer (some ⟨tb,0,none⟩),.int .i64 i] W (EntT (entryAt es i) W)):=hid (fun W i hW=>so_tEntry tb F es i W (HT2.o.keep hW) HOk.o.2.2)
  obtain⟨rf,A,cp,rs,c0,c12,hrm,hrd,hri,-⟩:=HQ2.o.file;obtain⟨A1,cp1,xs,c1,hx1,hxd,hxi⟩:=HQ2.o.ents
  have hrl0:rs.length=F.rls.length:=by rw [←hrm];simp
  have hxl0:xs.length=es.length:=by rw [←hx1,entAbs_len]
  have hrl:rs.length≤65536:=by have:=HOk.o.1.rls;omega
  have hxl:xs.length≤65536:=by have:=HOk.o.2.2.len;omega
  have HRd:=hid hrd;have HXd:=hid hxd;have HRi:=hid hri;have HXi:=hid hxi;have HRm:=hid hrm;have HXm:=hid hx1;obtain⟨N,hN⟩:∃N,rs.length=N:=⟨_,rfl⟩;obtain⟨M,hM⟩:∃M,xs.length=M:=⟨_,rfl⟩;rw [hN] at c12 hrl hrl0;rw [hM] at c1 hxl hxl0;have HN:=hid hN;have HMm:=hid hM;have HNF:Hid (F.rls.length=N):=hid hrl0.symm;have hul:ub < w2.heap.size:=block_lt_of_cell? _ _ c0;have hrfl:rf < w2.heap.size:=block_lt_of_cell? _ _ c12;clear HR HW HM HT1 HQ1 HB1 hrm hx1 hrd hxd hri hxi hN hM hrl0 hxl0
  go_wp2_with fail
  go_loopw [8,9,10,11,12,13,14,15,16,17,18,48] (fun _ _ _ _ _ _ _ _ _ _ _ x wr=>∃k:Nat,k≤M∧x=.int .i64 k∧Hid (Below w2.heap.size w2 wr)) (fun _ _ _ _ _ _ _ _ _ _ _ x _=>M - (intOf x).toNat)
  case atStart=>exact⟨0,Nat.zero_le _,rfl,hid (Below.refl _ _)⟩
  case round =>
  obtain⟨i,hi,rfl,HBi⟩:=hrel
  by_cases hil:i < M
  ·have hir:i < xs.length:=by have:=HMm.o;omega
   obtain⟨hie,hek⟩:=entAbs_get HXm.o hir;obtain⟨-,A',cp',hv,hcap,h9⟩:=HXd.o
   cases hv
   obtain⟨g,o,rfl,hc⟩:=h9.resolve_left (by omega)
   obtain⟨q0,q1⟩:=ent_at xs i hir;have e0':=hc _ _ q0;have e1':=hc _ _ q1;rw [←Nat.add_assoc] at e1';have e0:=(HBi.o.cell (block_lt_of_cell? _ _ e0')).trans e0';have e1:=(HBi.o.cell (block_lt_of_cell? _ _ e1')).trans e1';have h8:=(HOk.o.2.2.each _ (List.getElem_mem hie)).1
   have hen:=fun W=>HEn.o W (i:Int)
   simp only [entryAt_in hie,hek] at hen
   have hsu:=fun W=>HSu.o W (i:Int)
   have hpr:=fun W=>HPr.o W (i:Int)
   have hqs:=fun W=>HQs.o W (i:Int)
   have hqp:=fun W=>HQp.o W (i:Int)
   simp only [entryAt_in hie,hek] at hsu hpr hqs hqp;have his0:=HXi.o _ (List.getElem_mem hir);have his:=(HXi.o _ (List.getElem_mem hir)).keep HBi.o;rw [hek] at h8;obtain⟨x,hx⟩:∃x,xs[i]=x:=⟨_,rfl⟩;obtain⟨s,u,z⟩:=x;rw [hx] at e0 e1 his his0 h8;simp only [hx] at hen hsu hpr hqs hqp;unfold EntT entD at hen;unfold entD at hsu hpr hqs hqp;dsimp only [Option.getD_some,Option.isSome_some] at e0 e1 his his0 h8 hen hsu hpr hqs hqp;have HIs:=hid his;have HI0:=hid his0;clear his0;obtain⟨pu,cu,rfl,-⟩:=his;have HEk:=hid hen;have HSk:=hid hsu;have HPk:=hid hpr;have HQk:=hid hqs;have HQl:=hid hqp;have hzl:=h8.len
   have hin:(i:Int) < (M:Int):=by omega
   have HFa:Hid (∀W v,FS W v z→IS W (.slice pu z.length cu) z→Calls Tryz.prog 15 #[v,.slice pu z.length cu] W fun e w'=>e=.returned (.bool true)∧∃n,w'=W.drewN n):=hid (fun W v hv hu=>so_flagsAre v (.slice pu z.length cu) z W hv hu h8.2.1 (by have:=h8.len;omega))
   clear hc h9 q0 q1 e0' e1' h8 hen hsu hpr hqs hqp hx hir hie hek
   go_upto_region 9 with fail
   have HX1:=hid (heap_alloc_new wr (.cells #[.string s,.slice pu z.length cu] 54));have HB1:=hid (HBi.o.alloc HBi.o.size (.cells #[.string s,.slice pu z.length cu] 54));have HI1:=hid (HIs.o.keep ((Below.refl _ _).alloc (Nat.le_refl _) (.cells #[.string s,.slice pu z.length cu] 54)))
   have HZ1:Hid ((wr.alloc (.cells #[.string s,.slice pu z.length cu] 54)).heap.size=wr.heap.size+1):=hid (by simp)
   obtain⟨w1,hw1⟩:∃W,wr.alloc (.cells #[.string s,.slice pu z.length cu] 54)=W:=⟨_,rfl⟩;have HLo:Hid (w2.heap.size≤wr.heap.size):=hid HBi.o.size;obtain⟨xb1,hxb⟩:∃n,wr.heap.size=n:=⟨_,rfl⟩;rw [hw1,hxb] at HX1 HZ1;rw [hw1] at HB1 HI1 ⊢;rw [hxb] at HLo ⊢;clear hw1 hxb e0 e1
   go_upto_region 10 with (go_at_call 13;refine (HEk.o _ HB1.o).mono ?_;rintro e w5 ⟨v5,rfl,hfn,hb5⟩;obtain⟨p5,c5,rfl⟩:=hfn.sl;have HFN:=hid hfn;have HB5:=hid hb5;clear hfn hb5)
   have HX6:=hid (heap_alloc_new w5 (.cells #[.string s,.slice p5 z.length c5] 35));have HA6:=hid ((Below.refl w5.heap.size w5).alloc (Nat.le_refl _) (.cells #[.string s,.slice p5 z.length c5] 35))
   have HZ6:Hid ((w5.alloc (.cells #[.string s,.slice p5 z.length c5] 35)).heap.size=w5.heap.size+1):=hid (by simp)
   obtain⟨w6,hw6⟩:∃W,w5.alloc (.cells #[.string s,.slice p5 z.length c5] 35)=W:=⟨_,rfl⟩;rw [hw6] at HX6 HA6 HZ6 ⊢;have HB6:Hid (Below w2.heap.size w2 w6):=hid ((HB1.o.trans (HB5.o.mono HB1.o.size)).trans (HA6.o.mono (HB1.o.trans (HB5.o.mono HB1.o.size)).size));clear hw6
   go_upto_region 11 with (first
    | (go_at_call 23;refine (HSk.o _ HB6.o).mono ?_;rintro e w7 ⟨v7,rfl,hin7,hb7⟩;obtain⟨pa,ca,rfl⟩:=hin7.sl;have HI7:=hid hin7;have HB7:=hid hb7;have HC7:=hid (HB6.o.trans (hb7.mono HB6.o.size));clear hin7 hb7)
    | (go_at_call 24;refine (HPk.o _ HC7.o).mono ?_;rintro e w8 ⟨v8,rfl,hin8,hb8⟩;obtain⟨pb,cb,rfl⟩:=hin8.sl;have HI8:=hid hin8;have HB8:=hid hb8;have HC8:=hid (HC7.o.trans (hb8.mono HC7.o.size));clear hin8 hb8))
   obtain⟨xb,hxb⟩:∃n,w5.heap.size=n:=⟨_,rfl⟩;rw [hxb] at HX6 ⊢;have hna:=HLn.o z 2;have hnb:=HLn.o z 1
   have HK:Hid (KpM w2 w8 xb1 xb (.cells #[.string s,.slice p5 z.length c5] 35) (.cells #[.string s,.slice pu z.length cu] 54) p5 pa pb z.length (namedR F z 2).length (namedR F z 1).length):=hid (by
    have b67:Below w6.heap.size w6 w8:=HB7.o.trans (HB8.o.mono HB7.o.size)
    have b5:=HB5.o.size;have z1:=HZ1.o;have z6:=HZ6.o
    refine⟨HC8.o,?_,(b67.block _ (block_lt HX6.o)).trans HX6.o,?_,?_,?_,?_,HLo.o,by omega⟩
    ·have h5:=(HB5.o.block _ (block_lt HX1.o)).trans HX1.o
     have h6:=(HA6.o.block _ (block_lt h5)).trans h5
     exact (b67.block _ (block_lt h6)).trans h6
    ·exact ((((WrA.fn HFN.o).mono (by omega)).below HA6.o).below b67)
    ·intro g o hp hl
     have h:=WrA.fn HFN.o;rw [hp] at h
     have:=h.lt hl
     omega
    ·exact ((WrA.in_ HI7.o).mono (by omega)).below HB8.o
    exact (WrA.in_ HI8.o).mono (by have:=HB7.o.size;omega))
   obtain⟨na,hna'⟩:∃n,(namedR F z 2).length=n:=⟨_,rfl⟩;obtain⟨nb,hnb'⟩:∃n,(namedR F z 1).length=n:=⟨_,rfl⟩;rw [hna'] at HK hna ⊢;rw [hnb'] at HK hnb ⊢;have HF8:=hid hna';have y1:=cell_of_heap HK.o.x 1
   simp only [List.getElem?_toArray,List.getElem?_cons_zero,List.getElem?_cons_succ] at y1
   clear HX6 HA6 HZ6 HB5 HFN HI7 HI8 HB7 HC7 hxb hna' hnb' HZ1 HX1
   go_wp2_with fail
   go_loopw [14,68] (fun _ y wx=>∃k:Nat,k≤z.length∧y=.int .i64 k∧Hid (KpM w2 wx xb1 xb (.cells #[.string s,.slice p5 z.length c5] 35) (.cells #[.string s,.slice pu z.length cu] 54) p5 pa pb z.length na nb)) (fun _ y _=>z.length - (intOf y).toNat)
   case atStart=>exact⟨0,Nat.zero_le _,rfl,HK⟩
   case round =>
   obtain⟨kf,hkf,rfl,HKf⟩:=hrel
   by_cases hlf:kf < z.length
   ·obtain⟨g,o,rfl,hgB,hg2⟩:=HKf.o.f.resolve_left (by omega)
    obtain⟨⟨uu,hu⟩,hfz⟩:=hg2 kf hlf
    have hgx:=HKf.o.fu g o rfl (by omega)
    have z1:=cell_of_heap HKf.o.x 1
    simp only [List.getElem?_toArray,List.getElem?_cons_zero,List.getElem?_cons_succ] at z1
    have hkn:(kf:Int) < (z.length:Int):=by omega
    have hxx:=HKf.o.lt;clear hg2
    go_wp2_with fail
    go_roundw
    case rel=>exact⟨kf+1,by omega,by go_num,hid (HKf.o.set g _ _ (by omega) (by omega))⟩
    case measure=>simp [intOf];omega
   obtain rfl:kf=z.length:=by omega
   clear HK y1
   go_wp2_with fail
   go_loopw [15,78] (fun _ y wx=>∃k:Nat,k≤na∧y=.int .i64 k∧Hid (KpM w2 wx xb1 xb (.cells #[.string s,.slice p5 z.length c5] 35) (.cells #[.string s,.slice pu z.length cu] 54) p5 pa pb z.length na nb)) (fun _ y _=>na - (intOf y).toNat)
   case atStart=>exact⟨0,Nat.zero_le _,rfl,HKf⟩
   case round =>
   obtain⟨ka,hka,rfl,HKa⟩:=hrel
   by_cases hla:ka < na
   ·obtain⟨g,o,rfl,hgB,hg2⟩:=HKa.o.a.resolve_left (by omega)
    obtain⟨⟨uu,hu⟩,hfz⟩:=hg2 ka hla
    have hkn:(ka:Int) < (na:Int):=by omega
    have hxx:=HKa.o.lt;clear hg2
    go_wp2_with fail
    go_roundw
    case rel=>exact⟨ka+1,by omega,by go_num,hid (HKa.o.set g _ _ (by omega) (by omega))⟩
    case measure=>simp [intOf];omega
   obtain rfl:na=ka:=by omega
   go_wp2_with fail
   go_loopw [16,87] (fun _ y wx=>∃k:Nat,k≤nb∧y=.int .i64 k∧Hid (KpM w2 wx xb1 xb (.cells #[.string s,.slice p5 z.length c5] 35) (.cells #[.string s,.slice pu z.length cu] 54) p5 pa pb z.length na nb)) (fun _ y _=>nb - (intOf y).toNat)
   case atStart=>exact⟨0,Nat.zero_le _,rfl,HKa⟩
   case round =>
   obtain⟨kb,hkb,rfl,HKb⟩:=hrel
   by_cases hlb:kb < nb
   ·obtain⟨g,o,rfl,hgB,hg2⟩:=HKb.o.b.resolve_left (by omega)
    obtain⟨⟨uu,hu⟩,hfz⟩:=hg2 kb hlb
    have hkn:(kb:Int) < (nb:Int):=by omega
    have hxx:=HKb.o.lt;clear hg2
    go_wp2_with fail
    go_roundw
    case rel=>exact⟨kb+1,by omega,by go_num,hid (HKb.o.set g _ _ (by omega) (by omega))⟩
    case measure=>simp [intOf];omega
   obtain rfl:nb=kb:=by omega
   have HBb:=hid HKb.o.base;have HWb:=hid HKb.o.want;clear HKb HKa HKf
   go_upto_region 27 with (go_at_call 13;refine (HEk.o _ HBb.o).mono ?_;rintro e w10 ⟨v9,rfl,hfn,hb⟩;obtain⟨p9,c9,rfl⟩:=hfn.sl;have hba:=hb.alloc hb.size (.cells #[.string s,.slice p9 z.length c9] 35);have HBy:=hid (HBb.o.trans (hba.mono HBb.o.size));have HFy:=hid (hfn.fs.keep ((Below.refl _ _).alloc (Nat.le_refl _) (.cells #[.string s,.slice p9 z.length c9] 35)));have hwy:=(hb.block _ (block_lt HWb.o)).trans HWb.o;have hly:=block_lt hwy;have x1:=cell_of_heap hwy 1;simp only [List.getElem?_toArray,List.getElem?_cons_zero,List.getElem?_cons_succ] at x1;clear hfn hb hba hwy)
   go_wp2_with (first
    | (have qq:=C5.out;clear qq;go_at_call 26;refine (HIn.o _ _ _ _ V4'.out V5.out (HLn.o _ _)).mono ?_;rintro e wq6 ⟨rfl,m,hw⟩;have C6:Hid (Below w2.heap.size w2 wq6):=hid (by rw [hw];exact below_drewN C5.out m);clear hw)
    | (have qq:=C4.out;clear qq;go_at_call 28;refine (HQl.o _ C4.out).mono ?_;rintro e wqC5 ⟨vqC5,rfl,hv,hb⟩;have C5:=hid (C4.out.trans (hb.mono C4.out.size));have V5:=hid hv;have V4':=hid (V4.out.keep hb);clear hv hb)
    | (have qq:=C3.out;clear qq;go_at_call 24;refine (HPk.o _ C3.out).mono ?_;rintro e wqC4 ⟨vqC4,rfl,hv,hb⟩;have C4:=hid (C3.out.trans (hb.mono C3.out.size));have V4:=hid hv.is;clear hv hb)
    | (have qq:=C2.out;clear qq;go_at_call 26;refine (HIn.o _ _ _ _ V1'.out V2.out (HLn.o _ _)).mono ?_;rintro e wq3 ⟨rfl,m,hw⟩;have C3:Hid (Below w2.heap.size w2 wq3):=hid (by rw [hw];exact below_drewN C2.out m);clear hw)
    | (have qq:=C1.out;clear qq;go_at_call 27;refine (HQk.o _ C1.out).mono ?_;rintro e wqC2 ⟨vqC2,rfl,hv,hb⟩;have C2:=hid (C1.out.trans (hb.mono C1.out.size));have V2:=hid hv;have V1':=hid (V1.out.keep hb);clear hv hb)
    | (have qq:=C0.out;clear qq;go_at_call 23;refine (HSk.o _ C0.out).mono ?_;rintro e wqC1 ⟨vqC1,rfl,hv,hb⟩;have C1:=hid (C0.out.trans (hb.mono C0.out.size));have V1:=hid hv.is;clear hv hb)
    | (go_at_call 15;refine (HFa.o _ _ HFy.o (HI0.o.keep HBy.o)).mono ?_;rintro e wq0 ⟨rfl,m,hw⟩;have C0:Hid (Below w2.heap.size w2 wq0):=hid (by rw [hw];exact below_drewN HBy.o m);clear hw))
   go_roundw
   case rel=>exact⟨i+1,by omega,by go_num,C6⟩
   case measure=>simp [intOf];omega
  obtain rfl:i=M:=by omega
  have d0:=(HBi.o.cell (p:=⟨ub,0,none⟩) hul).trans c0
  have d12:=(HBi.o.cell (p:=⟨rf,12,none⟩) hrfl).trans c12
  go_wp2_with fail
  go_loopw [19,20,21,22,23,24,25,26,27,135] (fun _ _ _ _ _ _ _ _ _ x wr=>∃k:Nat,k≤N∧x=.int .i64 k∧Hid (Below w2.heap.size w2 wr)) (fun _ _ _ _ _ _ _ _ _ x _=>N - (intOf x).toNat)
  case atStart=>exact⟨0,Nat.zero_le _,rfl,HBi⟩
  case round =>
  obtain⟨k,hk,rfl,HBk⟩:=hrel
  by_cases hlt:k < N
  ·have hkr:k < rs.length:=by have:=HN.o;omega
   have hkF:k < F.rls.length:=by have:=HNF.o;omega
   obtain⟨-,A',cp',hv,hcap,h9⟩:=HRd.o
   cases hv
   obtain⟨g,o,rfl,hc⟩:=h9.resolve_left (by omega)
   obtain⟨q0,q1,q2,q3,q4,q5,q6,q7⟩:=qrls_at rs k hkr
   have key:∀j u,(qrls rs)[k*8+j]?=some u→wr.cell? ⟨g,o+k*8+j,none⟩=some u:=fun j u hj=>by
    have h:=hc _ _ hj
    rw [←Nat.add_assoc] at h
    exact (HBk.o.cell (block_lt_of_cell? _ _ h)).trans h
   have e0:=key 0 _ q0;have e1:=key 1 _ q1;have e2:=key 2 _ q2;have e3:=key 3 _ q3;have e4:=key 4 _ q4;have e5:=key 5 _ q5;have e6:=key 6 _ q6;have e7:=key 7 _ q7;rw [Nat.add_zero] at e0
   have hr1:F.rls[k]=rs[k].1:=by have h:=HRm.o;simp [←h]
   have hfl:=tb_flag HOk.o.1 HOk.o.2.1 hkF;have h8:=next_set HOk.o.1 HOk.o.2.1 _ (List.getElem_mem hkF)
   have hru:=fun W=>HRu.o W (k:Int)
   have hse:=fun W=>HSe.o W (k:Int)
   have hqe:=fun W=>HQe.o W (k:Int)
   simp only [ruleAt_in hkF,hr1] at hru hse hqe;have his:=HRi.o _ (List.getElem_mem hkr);rw [hr1] at hfl h8;obtain⟨x,hx⟩:∃x,rs[k]=x:=⟨_,rfl⟩;obtain⟨⟨rk,q,rc,t,Q,R,z,rli⟩,u⟩:=x;rw [hx] at e0 e1 e2 e3 e4 e5 e6 e7 his hfl h8;simp only [hx] at hru hse hqe;unfold RulT ruleD rlV at hru;unfold ruleD at hse hqe;dsimp only [Option.getD_some,Option.isSome_some] at e0 e1 e2 e3 e4 e5 e6 e7 his hfl h8 hru hse hqe;have HI0:=hid his;obtain⟨pu,cu,rfl,-⟩:=his;have HRk:=hid hru;have HSk:=hid hse;have HQk:=hid hqe;have hzl:=h8.len
   have hnk:(k:Int) < (N:Int):=by omega
   have HRI:Hid (∀W v,FS W v z→IS W (.slice pu z.length cu) z→Calls Tryz.prog 14 #[.agg #[.int .i64 rk,.int .u16 q,.bool rc,.string t,.string Q,.string R,v],.agg #[.int .i64 rk,.int .i64 q,.bool rc,.string t,.string Q,.string R,.slice pu z.length cu,.int .i64 rli]] W fun e w'=>e=.returned (.bool true)∧Below W.heap.size W w'):=hid (fun W v hv hu=>so_ruleIs ⟨rk,q,rc,t,Q,R,z,rli⟩ v (.slice pu z.length cu) W hv hu hfl h8.2.1 (by have:=h8.len;show z.length≤1048576;omega))
   clear hc h9 q0 q1 q2 q3 q4 q5 q6 q7 key hr1 hfl h8 hru hse hqe hx hkr hkF
   go_upto_region 33 with fail
   have HX1:=hid (heap_alloc_new wr (.cells #[.int .i64 rk,.int .i64 q,.bool rc,.string t,.string Q,.string R,.slice pu z.length cu,.int .i64 rli] 41));have HB1:=hid (HBk.o.alloc HBk.o.size (.cells #[.int .i64 rk,.int .i64 q,.bool rc,.string t,.string Q,.string R,.slice pu z.length cu,.int .i64 rli] 41))
   have HZ1:Hid ((wr.alloc (.cells #[.int .i64 rk,.int .i64 q,.bool rc,.string t,.string Q,.string R,.slice pu z.length cu,.int .i64 rli] 41)).heap.size=wr.heap.size+1):=hid (by simp)
   obtain⟨w1,hw1⟩:∃W,wr.alloc (.cells #[.int .i64 rk,.int .i64 q,.bool rc,.string t,.string Q,.string R,.slice pu z.length cu,.int .i64 rli] 41)=W:=⟨_,rfl⟩;have HLo:Hid (w2.heap.size≤wr.heap.size):=hid HBk.o.size;obtain⟨xb1,hxb⟩:∃n,wr.heap.size=n:=⟨_,rfl⟩;rw [hw1,hxb] at HX1 HZ1;rw [hw1] at HB1 ⊢;rw [hxb] at HLo ⊢;clear hw1 hxb e0 e1 e2 e3 e4 e5 e6 e7
   go_upto_region 34 with (go_at_call 12;refine (HRk.o _ HB1.o).mono ?_;rintro e w5 ⟨v5,rfl,hfn,hb5⟩;obtain⟨p5,c5,rfl⟩:=hfn.sl;have HFN:=hid hfn;have HB5:=hid hb5;clear hfn hb5)
   have HX6:=hid (heap_alloc_new w5 (.cells #[.int .i64 rk,.int .u16 q,.bool rc,.string t,.string Q,.string R,.slice p5 z.length c5] 31));have HA6:=hid ((Below.refl w5.heap.size w5).alloc (Nat.le_refl _) (.cells #[.int .i64 rk,.int .u16 q,.bool rc,.string t,.string Q,.string R,.slice p5 z.length c5] 31))
   have HZ6:Hid ((w5.alloc (.cells #[.int .i64 rk,.int .u16 q,.bool rc,.string t,.string Q,.string R,.slice p5 z.length c5] 31)).heap.size=w5.heap.size+1):=hid (by simp)
   obtain⟨w6,hw6⟩:∃W,w5.alloc (.cells #[.int .i64 rk,.int .u16 q,.bool rc,.string t,.string Q,.string R,.slice p5 z.length c5] 31)=W:=⟨_,rfl⟩;rw [hw6] at HX6 HA6 HZ6 ⊢;have HB6:Hid (Below w2.heap.size w2 w6):=hid ((HB1.o.trans (HB5.o.mono HB1.o.size)).trans (HA6.o.mono (HB1.o.trans (HB5.o.mono HB1.o.size)).size));clear hw6
   go_upto_region 35 with (go_at_call 25;refine (HSk.o _ HB6.o).mono ?_;rintro e w7 ⟨v7,rfl,hin7,hb7⟩;obtain⟨pa,ca,rfl⟩:=hin7.sl;have HI7:=hid hin7;have HB7:=hid hb7;have HC7:=hid (HB6.o.trans (hb7.mono HB6.o.size));clear hin7 hb7)
   obtain⟨xb,hxb⟩:∃n,w5.heap.size=n:=⟨_,rfl⟩;rw [hxb] at HX6 ⊢;have hna:=HLn.o z 2
   have HK:Hid (KpM w2 w7 xb1 xb (.cells #[.int .i64 rk,.int .u16 q,.bool rc,.string t,.string Q,.string R,.slice p5 z.length c5] 31) (.cells #[.int .i64 rk,.int .i64 q,.bool rc,.string t,.string Q,.string R,.slice pu z.length cu,.int .i64 rli] 41) p5 pa none z.length (namedR F z 2).length 0):=hid (by
    have b5:=HB5.o.size
    have z1:=HZ1.o;have z6:=HZ6.o
    refine⟨HC7.o,?_,(HB7.o.block _ (block_lt HX6.o)).trans HX6.o,?_,?_,?_,.inl rfl,HLo.o,by omega⟩
    ·have h5:=(HB5.o.block _ (block_lt HX1.o)).trans HX1.o
     have h6:=(HA6.o.block _ (block_lt h5)).trans h5
     exact (HB7.o.block _ (block_lt h6)).trans h6
    ·exact ((((WrA.fn HFN.o).mono (by omega)).below HA6.o).below HB7.o)
    ·intro g o hp hl
     have h:=WrA.fn HFN.o;rw [hp] at h
     have:=h.lt hl
     omega
    exact (WrA.in_ HI7.o).mono (by omega))
   obtain⟨na,hna'⟩:∃n,(namedR F z 2).length=n:=⟨_,rfl⟩;rw [hna'] at HK hna ⊢;have y1:=cell_of_heap HK.o.x 6
   simp only [List.getElem?_toArray,List.getElem?_cons_zero,List.getElem?_cons_succ] at y1
   clear HX6 HA6 HZ6 HB5 HFN HI7 HB7 HC7 hxb hna' HZ1 HX1
   go_wp2_with fail
   go_loopw [24,152] (fun _ y wx=>∃k:Nat,k≤z.length∧y=.int .i64 k∧Hid (KpM w2 wx xb1 xb (.cells #[.int .i64 rk,.int .u16 q,.bool rc,.string t,.string Q,.string R,.slice p5 z.length c5] 31) (.cells #[.int .i64 rk,.int .i64 q,.bool rc,.string t,.string Q,.string R,.slice pu z.length cu,.int .i64 rli] 41) p5 pa none z.length na 0)) (fun _ y _=>z.length - (intOf y).toNat)
   case atStart=>exact⟨0,Nat.zero_le _,rfl,HK⟩
   case round =>
   obtain⟨kf,hkf,rfl,HKf⟩:=hrel
   by_cases hlf:kf < z.length
   ·obtain⟨g,o,rfl,hgB,hg2⟩:=HKf.o.f.resolve_left (by omega)
    obtain⟨⟨uu,hu⟩,hfz⟩:=hg2 kf hlf
    have hgx:=HKf.o.fu g o rfl (by omega)
    have z1:=cell_of_heap HKf.o.x 6
    simp only [List.getElem?_toArray,List.getElem?_cons_zero,List.getElem?_cons_succ] at z1
    have hkn:(kf:Int) < (z.length:Int):=by omega
    have hxx:=HKf.o.lt;clear hg2
    go_wp2_with fail
    go_roundw
    case rel=>exact⟨kf+1,by omega,by go_num,hid (HKf.o.set g _ _ (by omega) (by omega))⟩
    case measure=>simp [intOf];omega
   obtain rfl:kf=z.length:=by omega
   clear HK y1
   go_wp2_with fail
   go_loopw [25,162] (fun _ y wx=>∃k:Nat,k≤na∧y=.int .i64 k∧Hid (KpM w2 wx xb1 xb (.cells #[.int .i64 rk,.int .u16 q,.bool rc,.string t,.string Q,.string R,.slice p5 z.length c5] 31) (.cells #[.int .i64 rk,.int .i64 q,.bool rc,.string t,.string Q,.string R,.slice pu z.length cu,.int .i64 rli] 41) p5 pa none z.length na 0)) (fun _ y _=>na - (intOf y).toNat)
   case atStart=>exact⟨0,Nat.zero_le _,rfl,HKf⟩
   case round =>
   obtain⟨ka,hka,rfl,HKa⟩:=hrel
   by_cases hla:ka < na
   ·obtain⟨g,o,rfl,hgB,hg2⟩:=HKa.o.a.resolve_left (by omega)
    obtain⟨⟨uu,hu⟩,hfz⟩:=hg2 ka hla
    have hkn:(ka:Int) < (na:Int):=by omega
    have hxx:=HKa.o.lt;clear hg2
    go_wp2_with fail
    go_roundw
    case rel=>exact⟨ka+1,by omega,by go_num,hid (HKa.o.set g _ _ (by omega) (by omega))⟩
    case measure=>simp [intOf];omega
   obtain rfl:na=ka:=by omega
   have HBb:=hid HKa.o.base;have HWb:=hid HKa.o.want;clear HKa HKf
   go_upto_region 46 with (go_at_call 12;refine (HRk.o _ HBb.o).mono ?_;rintro e w10 ⟨v9,rfl,hfn,hb⟩;obtain⟨p9,c9,rfl⟩:=hfn.sl;have hba:=hb.alloc hb.size (.cells #[.int .i64 rk,.int .u16 q,.bool rc,.string t,.string Q,.string R,.slice p9 z.length c9] 31);have HBy:=hid (HBb.o.trans (hba.mono HBb.o.size));have HFy:=hid (hfn.fs.keep ((Below.refl _ _).alloc (Nat.le_refl _) (.cells #[.int .i64 rk,.int .u16 q,.bool rc,.string t,.string Q,.string R,.slice p9 z.length c9] 31)));have hwy:=(hb.block _ (block_lt HWb.o)).trans HWb.o;have hly:=block_lt hwy;have x0:=cell_of_heap hwy 0;have x1:=cell_of_heap hwy 1;have x2:=cell_of_heap hwy 2;have x3:=cell_of_heap hwy 3;have x4:=cell_of_heap hwy 4;have x5:=cell_of_heap hwy 5;have x6:=cell_of_heap hwy 6;have x7:=cell_of_heap hwy 7;simp only [List.getElem?_toArray,List.getElem?_cons_zero,List.getElem?_cons_succ] at x0 x1 x2 x3 x4 x5 x6 x7;clear hfn hb hba hwy)
   go_wp2_with (first
    | (have qq:=C2.out;clear qq;go_at_call 26;refine (HIn.o _ _ _ _ V1'.out V2.out (HLn.o _ _)).mono ?_;rintro e wq3 ⟨rfl,m,hw⟩;have C3:Hid (Below w2.heap.size w2 wq3):=hid (by rw [hw];exact below_drewN C2.out m);clear hw)
    | (have qq:=C1.out;clear qq;go_at_call 29;refine (HQk.o _ C1.out).mono ?_;rintro e wqC2 ⟨vqC2,rfl,hv,hb⟩;have C2:=hid (C1.out.trans (hb.mono C1.out.size));have V2:=hid hv;have V1':=hid (V1.out.keep hb);clear hv hb)
    | (have qq:=C0.out;clear qq;go_at_call 25;refine (HSk.o _ C0.out).mono ?_;rintro e wqC1 ⟨vqC1,rfl,hv,hb⟩;have C1:=hid (C0.out.trans (hb.mono C0.out.size));have V1:=hid hv.is;clear hv hb)
    | (go_at_call 14;refine (HRI.o _ _ HFy.o (HI0.o.keep HBy.o)).mono ?_;rintro e wq0 ⟨rfl,hb⟩;have C0:Hid (Below w2.heap.size w2 wq0):=hid (HBy.o.trans (hb.mono HBy.o.size));clear hb))
   go_roundw
   case rel=>exact⟨k+1,by omega,by go_num,C3⟩
   case measure=>simp [intOf];omega
  obtain rfl:k=N:=by omega
  go_wp2_with fail
  go_ret
  exact⟨rfl,HB2.o.trans (HBk.o.mono HB2.o.size)⟩
theorem tablesKeeps_sh (a d:ByteArray) (W:World) (h:W.ShapedOpen Tryz.prog) :
  Calls Tryz.prog 7 #[.string a,.string d] W fun e w'=>e=.returned (.bool true)∧Below W.heap.size W w':=by
 obtain⟨m,hm⟩:=maxLen_of W h
 exact tablesKeeps_walk a d m W (Nat.lt_of_le_of_lt (Nat.zero_le _) (block_lt_of_cell? _ _ hm)) hm
end Go.Proofs.YtfkblpjfknfgbaaGreatDoor
