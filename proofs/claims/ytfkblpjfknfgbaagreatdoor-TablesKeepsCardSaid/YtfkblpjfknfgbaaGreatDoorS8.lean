/-
 Parts of the proof: AF14, AF8, AF9, AF15, AF17, AF18, AF19, AF20, AF21.
-/
import Derived.Test.YtfkblpjfknfgbaaGreatDoorRows
import Derived.Test.YtfkblpjfknfgbaaGreatDoorS7
import Derived.Deep.CutRange
import Derived.Test.YtfkblpjfknfgbaaGreatDoorS5
import Derived.Test.YtfkblpjfknfgbaaGreatDoorS0
import Derived.Carry
import Derived.Tactics
import Derived.Tactics2
import Derived.Defers
import Derived.Recover
import Derived.Laws.Pointers
import Derived.Test.YtfkblpjfknfgbaaGreatDoorS6
set_option linter.unusedVariables false
set_option linter.unusedSimpArgs false
set_option maxHeartbeats 8000000
set_option maxRecDepth 100000
open Go.Maps Go.RowKit Go.WideMaps
open Go.Lib (hid cell_of_heap frozen_of_heap)
open Go.World (block_lt_of_cell?)
namespace Go.Proofs.YtfkblpjfknfgbaaGreatDoor
theorem box_xs (w:World) (c:Cl):XS w c ⟨#[]⟩ ⟨#[]⟩ ⟨#[46]⟩ (.slice none 0 0) (((w.alloc (.cells #[.int .u16 c.flag,.int .i64 c.kind,.bool c.cross,.int .i64 c.first,.int .i64 c.count] 99)).alloc (.cells ruleZ 31)).alloc (.cells (ruleX c ⟨#[]⟩ ⟨#[]⟩ ⟨#[46]⟩ (.slice none 0 0)) 31)):=by
 refine⟨(((Below.refl _ _).alloc (Nat.le_refl _) _).alloc (by simp) _).alloc (by simp only [World.size_alloc];omega) _,?_,?_,?_⟩
 ·rw [Below.heap_alloc _ _ w.heap.size (by simp only [World.size_alloc];omega),Below.heap_alloc _ _ w.heap.size (by simp)]
  exact heap_alloc_new w _
 ·rw [Below.heap_alloc _ _ (w.heap.size+1) (by simp)]
  have:=heap_alloc_new (w.alloc (.cells #[.int .u16 c.flag,.int .i64 c.kind,.bool c.cross,.int .i64 c.first,.int .i64 c.count] 99)) (.cells ruleZ 31)
  rwa [World.size_alloc] at this
 have:=heap_alloc_new ((w.alloc (.cells #[.int .u16 c.flag,.int .i64 c.kind,.bool c.cross,.int .i64 c.first,.int .i64 c.count] 99)).alloc (.cells ruleZ 31)) (.cells (ruleX c ⟨#[]⟩ ⟨#[]⟩ ⟨#[46]⟩ (.slice none 0 0)) 31)
 rwa [World.size_alloc,World.size_alloc] at this
theorem XS.xcells {w W:World} {c:Cl} {strip add cond:ByteArray} {nv:Value} (h:XS w c strip add cond nv W) :
  W.cell? ⟨w.heap.size+2,0,none⟩=some (.int .i64 c.kind)∧W.cell? ⟨w.heap.size+2,1,none⟩=some (.int .u16 c.flag)∧W.cell? ⟨w.heap.size+2,2,none⟩=some (.bool c.cross)∧W.cell? ⟨w.heap.size+2,3,none⟩=some (.string strip)∧W.cell? ⟨w.heap.size+2,4,none⟩=some (.string add)∧W.cell? ⟨w.heap.size+2,5,none⟩=some (.string cond)∧W.cell? ⟨w.heap.size+2,6,none⟩=some nv:=by
 refine⟨?_,?_,?_,?_,?_,?_,?_⟩<;>(rw [cell_of_heap h.x];rfl)
theorem XS.zcells {w W:World} {c:Cl} {strip add cond:ByteArray} {nv:Value} (h:XS w c strip add cond nv W) :
  W.cell? ⟨w.heap.size+1,0,none⟩=some (.int .i64 0)∧W.cell? ⟨w.heap.size+1,1,none⟩=some (.int .u16 0)∧W.cell? ⟨w.heap.size+1,2,none⟩=some (.bool false)∧W.cell? ⟨w.heap.size+1,3,none⟩=some (.string ⟨#[]⟩)∧W.cell? ⟨w.heap.size+1,4,none⟩=some (.string ⟨#[]⟩)∧W.cell? ⟨w.heap.size+1,5,none⟩=some (.string ⟨#[]⟩)∧W.cell? ⟨w.heap.size+1,6,none⟩=some (.slice none 0 0):=by
 refine⟨?_,?_,?_,?_,?_,?_,?_⟩<;>(rw [cell_of_heap h.res];rfl)
theorem FN.setCell {B b j:Nat} {W:World} {v u:Value} {zs:List Int} (h:FN B W v zs) (hx:b < B):FN B (W.setCell ⟨b,j,none⟩ u) v zs:=by
 obtain⟨p,c,hv,hc,h⟩:=h
 refine⟨p,c,hv,hc,h.imp id ?_⟩
 rintro⟨g,off,hp,h1,h2⟩
 refine⟨g,off,hp,h1,fun i hi=>?_⟩
 obtain⟨h3,h4⟩:=h2 i hi
 have hlt:=block_lt_of_cell? _ _ h3
 have hk:=(set_kept1 W b j u).block g hlt (by simp;omega)
 exact⟨(World.cell?_of_block hk).trans h3,(World.frozen?_of_block hk).trans h4⟩
theorem XS.answer {w W:World} {c:Cl} {strip add cond:ByteArray} {nv:Value} {next:List Int} (h:XS w c strip add cond nv W) (hn:FN (w.heap.size+3) W nv next) (line:Int) :
  ∀W' e,W'=((((((W.setCell ⟨w.heap.size+1,0,none⟩ (.int .i64 c.kind)).setCell ⟨w.heap.size+1,1,none⟩ (.int .u16 c.flag)).setCell ⟨w.heap.size+1,2,none⟩ (.bool c.cross)).setCell ⟨w.heap.size+1,3,none⟩ (.string strip)).setCell ⟨w.heap.size+1,4,none⟩ (.string add)).setCell ⟨w.heap.size+1,5,none⟩ (.string cond)).setCell ⟨w.heap.size+1,6,none⟩ nv →
   e=.returned (.agg #[.int .i64 c.kind,.int .u16 c.flag,.bool c.cross,.string strip,.string add,.string cond,nv])→RuleP (.ok ⟨c.kind,c.flag,c.cross,strip,add,cond,next,line⟩) line w e W':=by
 rintro W' e rfl rfl
 refine⟨?_,nv,rfl,?_⟩
 ·exact ((((((h.below.setCell (by simp) _).setCell (by simp) _).setCell (by simp) _).setCell (by simp) _).setCell (by simp) _).setCell (by simp) _).setCell (by simp) _
 exact (((((((hn.setCell (by omega)).setCell (by omega)).setCell (by omega)).setCell (by omega)).setCell (by omega)).setCell (by omega)).setCell (by omega)).mono (by omega)
theorem XS.zfroz {w W:World} {c:Cl} {strip add cond:ByteArray} {nv:Value} (h:XS w c strip add cond nv W) :
  W.frozen? ⟨w.heap.size+1,0,none⟩=false∧W.frozen? ⟨w.heap.size+1,1,none⟩=false∧W.frozen? ⟨w.heap.size+1,2,none⟩=false∧W.frozen? ⟨w.heap.size+1,3,none⟩=false∧W.frozen? ⟨w.heap.size+1,4,none⟩=false∧W.frozen? ⟨w.heap.size+1,5,none⟩=false∧W.frozen? ⟨w.heap.size+1,6,none⟩=false :=
 ⟨frozen_of_heap h.res _,frozen_of_heap h.res _,frozen_of_heap h.res _,frozen_of_heap h.res _,frozen_of_heap h.res _,frozen_of_heap h.res _,frozen_of_heap h.res _⟩
theorem FN.later {B:Nat} {W W':World} {v:Value} {zs:List Int} (h:FN B W v zs) (hb:Below W.heap.size W W'):FN B W' v zs:=by
 obtain⟨p,c,hv,hc,h⟩:=h
 refine⟨p,c,hv,hc,h.imp id ?_⟩
 rintro⟨g,off,hp,h1,h2⟩
 refine⟨g,off,hp,h1,fun i hi=>?_⟩
 obtain⟨h3,h4⟩:=h2 i hi
 have hk:=hb.block g (block_lt_of_cell? _ _ h3)
 exact⟨(World.cell?_of_block hk).trans h3,(World.frozen?_of_block hk).trans h4⟩
theorem itemsGo_err:∀(n:Nat) (l:List UInt8) (e:Int),itemsGo n l=.error e→e=41
 | 0,l,e,h=>by simp [itemsGo] at h
 | n+1,[],e,h=>by simp [itemsGo] at h
 | n+1,b::l,e,h=>by
   unfold itemsGo at h
   split at h
   ·split at h
    ·cases h;rfl
    ·split at h
     ·cases h;rfl
     ·split at h
      ·rename_i h2;cases h;exact itemsGo_err n _ _ h2
      ·cases h
   ·split at h
    ·rename_i h2;cases h;exact itemsGo_err n _ _ h2
    ·cases h
theorem condR_err {l:List UInt8} {e:Int} (h:condR l=.error e):(e==0)=false:=by
 unfold condR at h
 split at h
 ·cases h;rfl
 split at h
 ·cases h
 split at h
 ·rename_i h2;cases h;rw [itemsGo_err _ _ _ h2];rfl
 split at h
 ·cases h;rfl
 cases h
theorem condR_len {l:List UInt8} {ts:List (List UInt8)} (h:condR l=.ok ts):ts.length≤16:=by
 unfold condR at h
 split at h
 ·cases h
 split at h
 ·cases h;exact Nat.zero_le _
 split at h
 ·cases h
 split at h
 ·cases h
 cases h;omega
theorem FileF.later {w W:World} {fb:Nat} {kind:Int} {av:Value} {us:List Value} {al:List (List Int)} (h:FileF w fb kind av us al) (hb:Below w.heap.size w W):FileF W fb kind av us al :=
 ⟨(hb.cell (block_lt_of_cell? _ _ h.kind)).trans h.kind,(hb.cell (block_lt_of_cell? _ _ h.als)).trans h.als,h.row.keep hb,fun k u a hu ha=>(h.sets k u a hu ha).keep hb,h.canons⟩
theorem so_rule (rb fb:Nat) (line:Int) (F:Fl) (av:Value) (us:List Value) (c:Cl) (fv:Value) (row:List ByteArray) (m0:Int) (w:World) (h2:w.cell? ⟨rb,2,none⟩=some (.int .i64 line)) (h0:w.cell? ⟨rb,0,none⟩=some (.pointer (some ⟨fb,0,none⟩)))
  (hF:FileF w fb F.kind av us F.als) (hr:RowF1 w fv row) (hal:F.als.length≤65536) (hm0:w.cell? ⟨0,0,none⟩=some (.int .i64 m0)) :
  Calls Tryz.prog 118 #[.pointer (some ⟨rb,0,none⟩),.agg #[.int .u16 c.flag,.int .i64 c.kind,.bool c.cross,.int .i64 c.first,.int .i64 c.count],fv] w (RuleP (ruleR F c line row) line w):=by
 have hxs:=box_xs w c
 unfold ruleZ at hxs
 have hxs2:=hxs
 clear hxs
 rw [show ruleX c ⟨#[]⟩ ⟨#[]⟩ ⟨#[46]⟩ (.slice none 0 0)=#[.int .i64 c.kind,.int .u16 c.flag,.bool c.cross,.string ⟨#[]⟩,.string ⟨#[]⟩,.string ⟨#[46]⟩,.slice none 0 0] from rfl] at hxs2
 have HXS:=hid hxs2
 clear hxs2
 have HM:Hid (∀W b k,Below w.heap.size w W→k≠0→Calls Tryz.prog 46 #[.pointer (some ⟨rb,0,none⟩),.bool b,.int .i64 k] W (MustP b line k W)):=hid (fun W b k hb hk=>so_must rb line b k W hk ((hb.cell (block_lt_of_cell? _ _ h2)).trans h2))
 have hB1:Below w.heap.size w ((w.alloc (.cells #[.int .u16 c.flag,.int .i64 c.kind,.bool c.cross,.int .i64 c.first,.int .i64 c.count] 99)).alloc (.cells ruleZ 31)):=((Below.refl _ _).alloc (Nat.le_refl _) _).alloc (by simp) _
 unfold ruleZ at hB1
 have HB1:=hid hB1
 clear hB1
 by_cases hlen:row.length≠4∧row.length≠5
 ·have HRe:=hid (rule_len (F:=F) (c:=c) (line:=line) hlen)
  have e4:((row.length:Int)==4)=false:=by rw [beq_eq_false_iff_ne];omega
  have e5:((row.length:Int)==5)=false:=by rw [beq_eq_false_iff_ne];omega
  obtain⟨-,A,cp,rfl,-,-⟩:=hr.rd
  clear hlen
  go_enter Tryz.func118,Tryz.ntmps118
  go_wp2_with fail
  refine (HM.out _ false 111 HB1.out (by decide)).mono ?_
  rintro e w9 ⟨⟨hx,-⟩ | ⟨-,rfl⟩,rfl⟩
  ·exact absurd hx (by simp)
  exact⟨rfl,HB1.out,by rw [HRe.out]⟩
 have HMt:Hid (∀W k,Below w.heap.size w W→k≠0→Calls Tryz.prog 46 #[.pointer (some ⟨rb,0,none⟩),.bool true,.int .i64 k] W fun e w'=>e=.returned (.tuple #[])∧w'=W):=hid (fun W k hb hk=>(HM.out W true k hb hk).mono (by
  rintro e w' ⟨⟨-,rfl⟩ | ⟨hx,-⟩,rfl⟩
  ·exact⟨rfl,rfl⟩
  cases hx))
 obtain⟨g,o,cp,rfl,hcp,hcells⟩:=hr.cells (by omega)
 have HCe:=hid hcells
 clear hcells
 obtain⟨n,hn⟩:∃n,row.length=n:=⟨_,rfl⟩
 rw [hn] at hcp HCe hlen ⊢
 have d2:=HCe.out 2 (by omega)
 have d3:=HCe.out 3 (by omega)
 have hn':n=4∨n=5:=by omega
 clear hlen
 have HP:Hid (∀W,Below w.heap.size w W→Calls Tryz.prog 117 #[.pointer (some ⟨rb,0,none⟩),.string (fieldAt row 2)] W (OutW line W Value.string (pieceR true (fieldAt row 2)))):=hid (fun W hb=>so_pieceOrNone rb line (fieldAt row 2) W (Nat.le_trans (fieldAt_le hr.each 2) (by decide)) ((hb.cell (block_lt_of_cell? _ _ h2)).trans h2))
 have hd2:∀W,Below w.heap.size w W→W.cell? ⟨g,o+2,none⟩=some (.string (fieldAt row 2)):=fun W hb=>(hb.cell (block_lt_of_cell? _ _ d2)).trans d2
 have d2':=hd2 _ HXS.out.below
 cases hp:pieceR true (fieldAt row 2) with
 | error e =>
  have HRe:=hid (rule_strip (F:=F) (c:=c) (line:=line) (row:=row) (by rw [hn];omega) hp)
  rw [hp] at HP
  unfold OutW at HP
  clear hp
  rcases hn' with rfl | rfl
  all_goals
   go_enter Tryz.func118,Tryz.ntmps118
   go_upto_region 3 with (go_at_call 46;refine (HMt.out _ _ HB1.out (by decide)).mono ?_;rintro e w2 ⟨rfl,rfl⟩)
   go_wp2_with fail
   refine (HP.out _ HXS.out.below).mono ?_
   rintro e9 w9 ⟨hb9,rfl⟩
   exact⟨rfl,HXS.out.below.trans (hb9.mono HXS.out.below.size),by rw [HRe.out]⟩
 | ok strip =>
  have HRe:=hid (rule_ok (F:=F) (c:=c) (line:=line) (row:=row) (by rw [hn];omega) hp)
  rw [hp] at HP
  unfold OutW at HP
  clear hp
  rcases hn' with rfl | rfl
  all_goals
   go_enter Tryz.func118,Tryz.ntmps118
   go_upto_region 3 with (go_at_call 46;refine (HMt.out _ _ HB1.out (by decide)).mono ?_;rintro e w2 ⟨rfl,rfl⟩)
   go_cut [] from 33 to 38 (fun W=>Hid (XS w c strip ⟨#[]⟩ ⟨#[46]⟩ (.slice none 0 0) W))
   case first =>
    go_wp2_with (go_at_call 117;refine (HP.out _ HXS.out.below).mono ?_;rintro e w3 ⟨hb3,rfl⟩;have HX3:=hid (HXS.out.later hb3);obtain⟨u3,hu3,hf3⟩:=HX3.out.xat 3 (by decide);clear hb3)
    all_goals go_meet
    all_goals exact HX3.out.setStrip
   case rest =>
   have HX4:=hcut
   have d3':=(HX4.out.below.cell (block_lt_of_cell? _ _ d3)).trans d3
   have hl4:=(HX4.out.below.cell (block_lt_of_cell? _ _ h2)).trans h2
   have HW:=hid (so_wread (fieldAt row 3) wc (Nat.le_trans (fieldAt_le hr.each 3) (by decide)))
   clear hcut
   rcases hw:wordR (fieldAt row 3).data.toList with ⟨wd,rest,cut,ew⟩
   rw [hw] at HW
   by_cases hew:ew=0
   ·subst hew
    unfold wordV at HW
    dsimp only at HW
    have HRw:Hid (ruleR F c line row=match addR wd with
     | .error e=>.error e
     | .ok add=>ruleB F c line row strip add rest cut):=hid (by rw [HRe.out,ruleA,hw];rfl)
    obtain⟨Bz,hBz⟩:∃B,((mkS wd).toList==[48])=B:=⟨_,rfl⟩
    have hwl:=(wordR_len (fieldAt row 3).data.toList).1
    rw [hw,len_toList] at hwl
    have HSz:=hid (show (mkS wd).size≤140737488355328 by rw [mkS_size];exact Nat.le_trans hwl (Nat.le_trans (fieldAt_le hr.each 3) (by decide)))
    have HHw:=hid hw
    clear hwl hw
    go_upto_if 52 with (first | (go_at_call 84;refine HW.out.mono ?_;rintro e w4 ⟨rfl,hb4⟩;have HX5:=hid (HX4.out.later hb4);have HB5:=hid hb4;have hl5:=(HX5.out.below.cell (block_lt_of_cell? _ _ h2)).trans h2;clear hb4) | (go_at_call 83;refine (so_need rb line 0 _ hl5).mono ?_;rintro e w5 ⟨⟨-,rfl⟩ | ⟨hx,-⟩,rfl⟩))
    cases ha:addR wd with
    | error e =>
     have HRf:Hid (ruleR F c line row=.error e):=hid (by rw [HRw.out,ha])
     have hz:mkS wd≠zeroS:=fun h=>by rw [addR,if_pos h] at ha;cases ha
     have hBf:Bz=false:=by
      rw [←hBz,beq_eq_false_iff_ne]
      intro h3
      rw [Lib.toList_data] at h3
      have h4:wd=[48]:=h3
      exact hz (by rw [h4];rfl)
     subst hBf
     have hfit:fitR (mkS wd)=.error e:=by
      rw [addR,if_neg hz] at ha
      rw [fitR]
      by_cases hf:fitE (mkS wd)≠0
      ·rw [if_pos hf] at ha ⊢;cases ha;rfl
      rw [if_neg hf] at ha;cases ha
     have HFt:=hid (so_fitR rb line (mkS wd) w4 HSz.out hl5)
     rw [hfit] at HFt
     unfold OutW at HFt
     clear hz hfit ha
     go_wp2_with fail
     refine HFt.out.mono ?_
     rintro e9 w9 ⟨hb9,rfl⟩
     exact⟨rfl,HX5.out.below.trans (hb9.mono HX5.out.below.size),by rw [HRf.out]⟩
    | ok add =>
     have HRb:Hid (ruleR F c line row=match nextR F c.kind rest cut with
      | .error e=>.error e
      | .ok next=>ruleC c line row strip add next):=hid (by rw [HRw.out,ha];rfl)
     have HAd:=hid ha
     clear ha
     go_cut [] from 53 to 56 (fun W=>Hid (XS w c strip add ⟨#[46]⟩ (.slice none 0 0) W))
     case first =>
      cases Bz
      ·have hz:mkS wd≠zeroS:=fun e=>by
        rw [e,Lib.toList_data] at hBz
        exact absurd hBz (by decide)
       have hadd:add=mkS wd∧fitR (mkS wd)=.ok (mkS wd):=by
        have h:=HAd.out
        rw [addR,if_neg hz] at h
        by_cases hf:fitE (mkS wd)≠0
        ·rw [if_pos hf] at h;cases h
        rw [if_neg hf] at h
        cases h
        exact⟨rfl,by rw [fitR,if_neg hf]⟩
       obtain⟨rfl,hfit⟩:=hadd
       have HFt:=hid (so_fitR rb line (mkS wd) w4 HSz.out hl5)
       rw [hfit] at HFt
       unfold OutW at HFt
       clear hz hfit
       go_wp2_with (go_at_call 151;refine HFt.out.mono ?_;rintro e w6 ⟨hb6,rfl⟩;have HX6:=hid (HX5.out.later hb6);obtain⟨u6,hu6,hf6⟩:=HX6.out.xat 4 (by decide);clear hb6)
       all_goals go_meet
       all_goals exact HX6.out.setAdd
      have hz:mkS wd=zeroS:=by
       have h3:(mkS wd).toList=[48]:=by simpa using hBz
       rw [Lib.toList_data] at h3
       have h4:wd=[48]:=h3
       rw [h4];rfl
      have hadd:add=⟨#[]⟩:=by
       have h:=HAd.out
       rw [addR,if_pos hz] at h
       cases h;rfl
      subst hadd
      clear hz
      go_wp2_with fail
      all_goals go_meet
      all_goals exact HX5
     case rest =>
     have HX7:=hcut
     have hl7:=(HX7.out.below.cell (block_lt_of_cell? _ _ h2)).trans h2
     clear hcut
     have HFS:Hid (cut=true→c.kind=2→Calls Tryz.prog 34 #[.pointer (some ⟨fb,0,none⟩),.string (mkS rest)] wc (FlgP (flagsR F (mkS rest)) wc)):=hid (fun _ _=>by
      have hwl:=(wordR_len (fieldAt row 3).data.toList).2
      rw [HHw.out,len_toList] at hwl
      rw [flagsR_eq]
      exact so_fileFlags fb F.kind m0 av us F.als (mkS rest) wc (hF.later HX7.out.below) hal (by rw [mkS_size];exact Nat.le_trans hwl (Nat.le_trans (fieldAt_le hr.each 3) (by decide))) ((HX7.out.below.cell (block_lt_of_cell? _ _ hm0)).trans hm0))
     obtain⟨k0,k1,k2⟩:=HX7.out.cells
     have hr0:=(HX7.out.below.cell (block_lt_of_cell? _ _ h0)).trans h0
     cases hnx:nextR F c.kind rest cut with
     | error e =>
      have HRf:Hid (ruleR F c line row=.error e):=hid (by rw [HRb.out,hnx])
      cases cut
      ·rw [nextR,if_neg (by simp)] at hnx;cases hnx
      rw [nextR,if_pos rfl] at hnx
      by_cases hk2:c.kind=2
      ·have hfl:(flagsR F (mkS rest)).2=e∧e≠0:=by
        rw [if_neg (by omega)] at hnx
        by_cases h:(flagsR F (mkS rest)).2≠0
        ·rw [if_pos h] at hnx;cases hnx;exact⟨rfl,h⟩
        rw [if_neg h] at hnx;cases hnx
       have ek:(c.kind==2)=true:=by rw [hk2];rfl
       have HFx:=hid (HFS.out rfl hk2)
       unfold FlgP at HFx
       rw [hfl.1] at HFx
       have HE0:Hid ((e==0)=false):=hid (by rw [beq_eq_false_iff_ne];exact hfl.2)
       clear hfl hk2 hnx
       go_wp2_with (first | (go_at_call 46;refine (HMt.out _ _ HX7.out.below (by decide)).mono ?_;rintro e w2 ⟨rfl,rfl⟩) | (go_at_call 34;refine HFx.out.mono ?_;rintro e6 w6 ⟨v6,rfl,hv6,hb6⟩;have HX8:=hid (HX7.out.later hb6);have hl8:=(HX8.out.below.cell (block_lt_of_cell? _ _ h2)).trans h2;obtain⟨p6,c6,hq6,-⟩:=hv6;subst hq6;clear hb6))
       refine (so_need rb line e _ hl8).mono ?_
       rw [HE0.out]
       rintro e w9 ⟨⟨hx,-⟩ | ⟨-,rfl⟩,rfl⟩
       ·exact absurd hx (by simp)
       exact⟨rfl,HX8.out.below,by rw [HRf.out]⟩
      have he:e=118:=by rw [if_pos hk2] at hnx;cases hnx;rfl
      subst he
      have ek:(c.kind==2)=false:=by rw [beq_eq_false_iff_ne];exact hk2
      clear hk2 hnx
      go_wp2_with fail
      refine (HM.out _ false 118 HX7.out.below (by decide)).mono ?_
      rintro e w9 ⟨⟨hx,-⟩ | ⟨-,rfl⟩,rfl⟩
      ·exact absurd hx (by simp)
      exact⟨rfl,HX7.out.below,by rw [HRf.out]⟩
     | ok next =>
      have HRc:Hid (ruleR F c line row=ruleC c line row strip add next):=hid (by rw [HRb.out,hnx])
      go_upto_if 57 with fail
      go_cut [] from 58 to 76 (fun W=>∃nv,Hid (XS w c strip add ⟨#[46]⟩ nv W)∧Hid (FN (w.heap.size+3) W nv next))
      case first =>
       cases cut
       ·have hnn:next=[]:=by
         unfold nextR at hnx
         rw [if_neg (by simp)] at hnx
         cases hnx;rfl
        subst hnn
        go_wp2_with fail
        all_goals go_meet
        all_goals exact⟨_,HX7,hid (FN.nil _ _ _ _)⟩
       have hk2:c.kind=2:=by
        unfold nextR at hnx
        rw [if_pos rfl] at hnx
        by_cases h:c.kind≠2
        ·rw [if_pos h] at hnx;cases hnx
        omega
       have hfl:(flagsR F (mkS rest)).2=0∧next=(flagsR F (mkS rest)).1:=by
        unfold nextR at hnx
        rw [if_pos rfl,if_neg (by omega)] at hnx
        by_cases h:(flagsR F (mkS rest)).2≠0
        ·rw [if_pos h] at hnx;cases hnx
        rw [if_neg h] at hnx
        cases hnx
        exact⟨by omega,rfl⟩
       have ek:(c.kind==2)=true:=by rw [hk2];rfl
       have HFx:=hid (HFS.out rfl hk2)
       unfold FlgP at HFx
       rw [hfl.1,←hfl.2] at HFx
       clear hfl hk2 hnx
       go_wp2_with (first | (go_at_call 46;refine (HMt.out _ _ HX7.out.below (by decide)).mono ?_;rintro e w2 ⟨rfl,rfl⟩) | (go_at_call 34;refine HFx.out.mono ?_;rintro e w6 ⟨v6,rfl,hv6,hb6⟩;have HV6:=hid hv6;have HX8:=hid (HX7.out.later hb6);have hl8:=(HX8.out.below.cell (block_lt_of_cell? _ _ h2)).trans h2;obtain⟨u6,hu6,hf6⟩:=HX8.out.xat 6 (by decide);obtain⟨p6,c6,hq6,-⟩:=hv6;subst hq6;clear hb6) | (go_at_call 83;refine (so_need rb line 0 _ hl8).mono ?_;rintro e w5 ⟨⟨-,rfl⟩ | ⟨hx,-⟩,rfl⟩))
       all_goals go_meet
       all_goals exact⟨_,hid HX8.out.setNext,hid ((FN.setCell HV6.out HX7.out.size).mono HX7.out.size)⟩
      case rest =>
      obtain⟨nv,HX9,HNv⟩:=hcut
      clear hnx hr0 k0 k1 k2 HFS
      obtain⟨p9,c9,hq9,-⟩:=HNv.out
      subst hq9
      first
       | (have hn4:row.length=4:=hn
          have HRz:Hid (ruleR F c line row=.ok ⟨c.kind,c.flag,c.cross,strip,add,⟨#[46]⟩,next,line⟩):=hid (by rw [HRc.out,ruleC,condOf,if_neg (by omega)])
          obtain⟨x0,x1,x2,x3,x4,x5,x6⟩:=HX9.out.xcells
          obtain⟨z0,z1,z2,z3,z4,z5,z6⟩:=HX9.out.zcells
          obtain⟨y0,y1,y2,y3,y4,y5,y6⟩:=HX9.out.zfroz
          go_wp2_with fail
          refine bodyPost_ret (v:=.agg #[.int .i64 c.kind,.int .u16 c.flag,.bool c.cross,.string strip,.string add,.string ⟨#[46]⟩,.slice p9 next.length c9]) (by simp [results,Tryz.results118,go_sem,z0,z1,z2,z3,z4,z5,z6];try rfl) rfl ?_
          rw [HRz.out]
          exact HX9.out.answer HNv.out line _ _ rfl rfl)
       | (have hn5:row.length=5:=hn
          have d4:=(HX9.out.below.cell (block_lt_of_cell? _ _ (HCe.out 4 (by omega)))).trans (HCe.out 4 (by omega))
          have hl9:=(HX9.out.below.cell (block_lt_of_cell? _ _ h2)).trans h2
          have hs4:=fieldAt_le hr.each 4
          have HPl:=hid (so_plainR rb line (fieldAt row 4) wc (Nat.le_trans hs4 (by decide)) hl9)
          cases hf:fitAll (fieldAt row 4)
          ·have HRz:Hid (ruleR F c line row=.error 21):=hid (by rw [HRc.out,ruleC,condOf,if_pos hn5,if_pos hf])
           rw [hf] at HPl
           clear hf hn5
           go_wp2_with fail
           refine HPl.out.mono ?_
           rintro e w9 ⟨⟨hx,-⟩ | ⟨-,rfl⟩,rfl⟩
           ·exact absurd hx (by simp)
           exact⟨rfl,HX9.out.below,by rw [HRz.out]⟩
          rw [hf] at HPl
          have HRy:Hid (ruleR F c line row=match condR (fieldAt row 4).data.toList with
           | .error e=>.error e
           | .ok ts=>.ok ⟨c.kind,c.flag,c.cross,strip,add,mkS (condShow ts),next,line⟩):=hid (by rw [HRc.out,ruleC,condOf,if_pos hn5,if_neg (by rw [hf];simp)];cases condR (fieldAt row 4).data.toList<;>rfl)
          have HPo:Hid (Calls Tryz.prog 111 #[.pointer (some ⟨rb,0,none⟩),.string (fieldAt row 4)] wc fun e w'=>e=.returned (.tuple #[])∧wc=w'):=hid (HPl.out.mono (by
           rintro e w' ⟨⟨-,rfl⟩ | ⟨hx,-⟩,rfl⟩
           ·exact⟨rfl,rfl⟩
           cases hx))
          have HCd:=hid (so_condRead (fieldAt row 4) wc)
          unfold CondP at HCd
          clear hf HPl hn5
          cases hc:condR (fieldAt row 4).data.toList with
          | error e =>
           have HRz:Hid (ruleR F c line row=.error e):=hid (by rw [HRy.out,hc])
           rw [hc] at HCd
           have HE0:Hid ((e==0)=false):=hid (condR_err hc)
           clear hc
           go_wp2_with (first | (go_at_call 111;refine HPo.out.mono ?_;rintro e8 w8 ⟨rfl,rfl⟩) | (go_at_call 152;refine HCd.out.mono ?_;rintro e8 w8 ⟨hb8,rfl⟩;have HX10:=hid (HX9.out.later hb8);clear hb8))
           have HX11:=hid (HX10.out.later ((Below.refl _ _).alloc (Nat.le_refl _) (.cells #[.slice none 0 0] 246)))
           refine (so_need rb line e _ ((HX11.out.below.cell (block_lt_of_cell? _ _ h2)).trans h2)).mono ?_
           rw [HE0.out]
           rintro e w9 ⟨⟨hx,-⟩ | ⟨-,rfl⟩,rfl⟩
           ·exact absurd hx (by simp)
           exact⟨rfl,HX11.out.below,by rw [HRz.out]⟩
          | ok ts =>
           have HRz:Hid (ruleR F c line row=.ok ⟨c.kind,c.flag,c.cross,strip,add,mkS (condShow ts),next,line⟩):=hid (by rw [HRy.out,hc])
           rw [hc] at HCd
           have HTs:=hid (condR_len hc)
           clear hc
           go_wp2_with (first | (go_at_call 111;refine HPo.out.mono ?_;rintro e8 w8 ⟨rfl,rfl⟩) | (go_at_call 152;refine HCd.out.mono ?_;rintro e8 w8 ⟨hb8,v8,n8,Xs,rfl,rfl,hXs,how⟩;have HX10:=hid (HX9.out.later hb8);have HN10:=hid (HNv.out.later hb8);obtain⟨A8,cp8,hv8⟩:=own_slice how;subst hv8;have HPR:Hid (PatR w8 (.slice A8 ts.length cp8) ts):=hid ⟨Xs,hXs,Rd.of_own how⟩;clear hb8 how hXs))
           have HX11:=hid (HX10.out.later ((Below.refl _ _).alloc (Nat.le_refl _) (.cells #[.slice A8 ts.length cp8] 246)))
           have HN11:=hid (HN10.out.later ((Below.refl _ _).alloc (Nat.le_refl _) (.cells #[.slice A8 ts.length cp8] 246)))
           have HPR2:=hid (HPR.out.keep ((Below.refl _ _).alloc (Nat.le_refl _) (.cells #[.slice A8 ts.length cp8] 246)))
           have hl11:=(HX11.out.below.cell (block_lt_of_cell? _ _ h2)).trans h2
           refine (so_need rb line 0 _ hl11).mono ?_
           rintro e w5 ⟨⟨-,rfl⟩ | ⟨hx,-⟩,rfl⟩
           rotate_left
           ·cases hx
           go_wp2_with (go_at_call 153;refine (so_ShowP _ ts _ HPR2.out (Nat.le_trans HTs.out (by decide))).mono ?_;rintro e8 w12 ⟨rfl,hb12⟩;have HX12:=hid (HX11.out.later hb12);have HN12:=hid (HN11.out.later hb12);clear hb12;obtain⟨x0,x1,x2,x3,x4,x5,x6⟩:=HX12.out.xcells;obtain⟨z0,z1,z2,z3,z4,z5,z6⟩:=HX12.out.zcells;obtain⟨y0,y1,y2,y3,y4,y5,y6⟩:=HX12.out.zfroz;obtain⟨u5,hu5,hf5⟩:=HX12.out.xat 5 (by decide);clear hu5)
           refine bodyPost_ret (v:=.agg #[.int .i64 c.kind,.int .u16 c.flag,.bool c.cross,.string strip,.string add,.string (mkS (condShow ts)),.slice p9 next.length c9]) (by simp [results,Tryz.results118,go_sem,z0,z1,z2,z3,z4,z5,z6];try rfl) rfl ?_
           rw [HRz.out]
           exact (HX12.out.setCond (s:=mkS (condShow ts))).answer (HN12.out.setCell (by omega)) line _ _ rfl rfl)
   have HRz:Hid (ruleR F c line row=.error ew):=hid (by rw [HRe.out,ruleA,hw];dsimp only;rw [if_pos hew])
   have HE0:Hid ((ew==0)=false):=hid (by rw [beq_eq_false_iff_ne];exact hew)
   unfold wordV at HW
   dsimp only at HW
   clear hw hew
   go_wp2_with (go_at_call 84;refine HW.out.mono ?_;rintro e4 w4 ⟨rfl,hb4⟩;have HX5:=hid (HX4.out.later hb4);have hl5:=(HX5.out.below.cell (block_lt_of_cell? _ _ h2)).trans h2;clear hb4)
   refine (so_need rb line ew _ hl5).mono ?_
   rw [HE0.out]
   rintro e w9 ⟨⟨hx,-⟩ | ⟨-,rfl⟩,rfl⟩
   ·exact absurd hx (by simp)
   exact⟨rfl,HX5.out.below,by rw [HRz.out]⟩
def late8:List ByteArray:=[kNEED,kFORBID,kKEEP,kPART,kQUIET,kAF,kPFX,kSFX]
theorem late_iff (s:ByteArray):lateN (keyN s)=true↔s∈late8:=by
 constructor
 ·intro h
  have h13:keyN s≠13:=fun e=>by rw [e] at h;exact absurd h (by decide)
  rw [key_of s h13]
  have hle:=keyN_le s
  generalize keyN s=n at h hle h13
  have:∀n,n < 13→lateN n=true→keyS n∈late8:=by decide
  exact this n (by omega) h
 intro h
 have:∀x∈late8,lateN (keyN x)=true:=by decide
 exact this s h
theorem late_any (heads:List ByteArray) (k:Nat) (hk:k < 8) (h:heads.count (late8.getD k kSFX)≠0):heads.any (fun h=>lateN (keyN h))=true:=by
 rw [List.any_eq_true]
 have hm:late8.getD k kSFX∈late8:=by
  have:∀k,k < 8→late8.getD k kSFX∈late8:=by decide
  exact this k hk
 refine⟨late8.getD k kSFX,List.count_pos_iff.1 (by omega),(late_iff _).2 hm⟩
theorem late_none (heads:List ByteArray) (h:∀j,j < 8→heads.count (late8.getD j kSFX)=0):heads.any (fun h=>lateN (keyN h))=false:=by
 rw [List.any_eq_false]
 intro x hx hl
 obtain⟨j,hj,rfl⟩:=List.getElem_of_mem ((late_iff x).1 hl)
 have:=h j hj
 rw [show late8.getD j kSFX=late8[j] by simp [List.getD,hj]] at this
 exact absurd hx (List.count_eq_zero.1 this)
theorem late_size:∀j,j < 8→(late8.getD j kSFX).size≤maxLen:=by
 have:∀j,j < 8→(late8.getD j kSFX).size≤100:=by decide
 intro j hj;have:=this j hj;unfold maxLen;omega
def kind3:List ByteArray:=[tSHORT,tLONG,tNUM]
theorem kind_idx (s:ByteArray):Lib.idxOfS kind3 s+1=kindOf s:=by
 unfold kindOf kind3 Lib.idxOfS
 by_cases h1:s=tSHORT
 ·subst h1;rfl
 by_cases h2:s=tLONG
 ·subst h2;rfl
 by_cases h3:s=tNUM
 ·subst h3;rfl
 rw [if_neg h1,if_neg h2,if_neg h3]
 simp [Lib.idxFromS,Ne.symm h1,Ne.symm h2,Ne.symm h3]
theorem so_kind (w0:World) (L:List Nat) (i:Ids) (E:Int) (kh k:Nat) (S:Sx) (fv:Value) (row:List ByteArray) (w:World) (h:RM w0 w L i E kh (k+1) S) (hr:RowF1 w0 fv row) (hl:row.length=2) :
  Calls Tryz.prog 75 #[.pointer (some ⟨i.rb,0,none⟩),fv] w (HeadP w0 L i E kh k (onFl S.line S (kindR S (fieldAt row 1))) w):=by
 have hsz:=fieldAt_le hr.each 1
 obtain⟨g,o,c,rfl,hc,hcells⟩:=hr.cells (by omega)
 have d1:=field_in (hcells 1 (by omega)) h.base
 obtain⟨hbd,v,hm⟩:=h
 have hb1:Below w.heap.size w (w.alloc (.cells #[.string kNEED,.string kFORBID,.string kKEEP,.string kPART,.string kQUIET,.string kAF,.string kPFX,.string kSFX] 9)):=(Below.refl _ _).alloc (Nat.le_refl _) _
 have HM1:=hid (hm.below hb1)
 have HB1:=hid hb1
 have HC:Hid (∀j,j < 8→(w.alloc (.cells #[.string kNEED,.string kFORBID,.string kKEEP,.string kPART,.string kQUIET,.string kAF,.string kPFX,.string kSFX] 9)).cell? ⟨w.heap.size,j,none⟩=some (.string (late8.getD j kSFX))):=hid (by
  intro j hj
  rw [cell_of_row _ w.heap.size j _ 9 (0,0) (heap_alloc_new w _)]
  rcases j with _ | _ | _ | _ | _ | _ | _ | _ | j<;>first | rfl | omega)
 have HB:=hid hbd
 rw [hl] at hc ⊢
 have D1:=hid d1
 clear hcells hm hbd hr hb1 d1
 go_enter Tryz.func75,Tryz.ntmps75
 go_wp2_with fail
 obtain⟨w1,hw1⟩:∃w1,w.alloc (.cells #[.string kNEED,.string kFORBID,.string kKEEP,.string kPART,.string kQUIET,.string kAF,.string kPFX,.string kSFX] 9)=w1:=⟨_,rfl⟩
 rw [hw1] at HM1 HB1 HC ⊢
 clear hw1
 have c4:=HM1.out.r4
 have HN:Hid (S.heads.any (fun h=>lateN (keyN h))=true→kindR S (fieldAt row 1)=.error 113):=hid (fun h=>by unfold kindR;rw [if_pos h])
 go_loop [5,8] (fun _ i=>∃k:Nat,k≤8∧i=.int .i64 k∧Hid (∀j,j < k→S.heads.count (late8.getD j kSFX)=0)) (fun _ i=>8 - (intOf i).toNat)
 case atStart=>exact⟨0,Nat.zero_le _,rfl,hid (fun j hj=>absurd hj (Nat.not_lt_zero _))⟩
 case round =>
 obtain⟨k',hk,rfl,HT⟩:=hrel
 by_cases hlt:k' < 8
 ·have hcell:=HC.out k' hlt
  obtain⟨x,hx⟩:∃x,late8.getD k' kSFX=x:=⟨_,rfl⟩
  rw [hx] at hcell
  have hlk:=HM1.out.seen.look x (by rw [←hx];exact late_size k' hlt)
  have HX:=hid hx
  clear hx
  by_cases hq:S.heads.count x=0
  ·rw [hq] at hlk
   have HN2:Hid (∀j,j < k'+1→S.heads.count (late8.getD j kSFX)=0):=hid (fun j hj=>by
    rcases Nat.lt_or_ge j k' with h | h
    ·exact HT.out j h
    obtain rfl:j=k':=by omega
    rw [HX.out];exact hq)
   clear hq
   go_wp2_with fail
   refine (so_must i.rb S.line _ _ _ (by decide) HM1.out.r2).mono ?_
   rintro e w' ⟨⟨-,rfl⟩ | ⟨h,-⟩,rfl⟩
   ·go_wp2_with fail
    go_round
    case rel=>exact⟨k'+1,by omega,by go_num,HN2⟩
    case measure=>simp [intOf];omega
   exact absurd h (by decide)
  have hne:((S.heads.count x:Int)==0)=false:=by rw [beq_eq_false_iff_ne];omega
  have HE:=hid (HN.out (late_any S.heads k' hlt (by rw [HX.out];exact hq)))
  clear hq
  go_wp2_with fail
  refine (so_must i.rb S.line _ _ _ (by decide) HM1.out.r2).mono ?_
  rintro e w' ⟨⟨h,-⟩ | ⟨-,rfl⟩,rfl⟩
  ·exact absurd h (by simp)
  exact⟨rfl,L,Go2.of_below HB1.out,by rw [HE.out];rfl⟩
 obtain rfl:k'=8:=by omega
 have HA:=hid (late_none S.heads HT.out)
 have HI:Hid (∀W:World,W.heap[w1.heap.size]?=some (.cells #[.string tSHORT,.string tLONG,.string tNUM] 9 (0,0))→Calls Tryz.prog 110 #[.slice (some ⟨w1.heap.size,0,none⟩) 3 3,.string (fieldAt row 1)] W fun e w'=>e=.returned (.int .i64 (kindOf (fieldAt row 1) - 1))∧W=w'):=hid (by
  intro W hW
  refine (Tryz.slices_Index_string w1.heap.size 0 3 3 kind3 (fieldAt row 1) W (by decide) (by decide) ?_).mono ?_
  ·intro j hj
   rw [cell_of_row _ w1.heap.size (0+j) _ 9 (0,0) hW]
   have hj':j < 3:=hj
   rcases j with _ | _ | _ | j<;>first | rfl | omega
  rintro e w' ⟨rfl,rfl⟩
  exact⟨ret_int (by rw [←kind_idx];simp [kind3]),rfl⟩)
 obtain⟨n,hn⟩:∃n,kindOf (fieldAt row 1)=n:=⟨_,rfl⟩
 have hn3:0≤n∧n≤3:=by rw [←hn];unfold kindOf;repeat' split
                      all_goals omega
 have HR:Hid (kindR S (fieldAt row 1)=if n=0 then .error 114 else .ok { S.fl with kind:=n }):=hid (by unfold kindR;rw [if_neg (by rw [HA.out];simp),hn])
 rw [hn] at HI
 have d1:=(HB1.out.cell (block_lt_of_cell? w _ D1.out)).trans D1.out
 have c0:=HM1.out.r0
 have e0:=HM1.out.f0
 have fz:=HM1.out.fz 0
 have nrf:¬i.rb=i.fb:=HM1.out.rf
 have nfr:¬i.fb=i.rb:=fun h=>nrf h.symm
 have nf:¬i.fb=w1.heap.size:=by have:=(HM1.out.hl _ HM1.out.fbL).2;omega
 have nf2:¬w1.heap.size=i.fb:=fun h=>nf h.symm
 have nr:¬i.rb=w1.heap.size:=by have:=(HM1.out.hl _ HM1.out.rbL).2;omega
 have nr2:¬w1.heap.size=i.rb:=fun h=>nr h.symm
 have hfl:=(HM1.out.hl _ HM1.out.fbL).2
 have hrl:=(HM1.out.hl _ HM1.out.rbL).2
 have hgl:g < w1.heap.size:=block_lt_of_cell? w1 _ d1
 have ng:¬g=w1.heap.size:=by omega
 have ng2:¬w1.heap.size=g:=by omega
 have HF:=hid (HM1.out.setF (F':={ S.fl with kind:=n }) 0 (.int .i64 n) (by rfl) rfl rfl rfl rfl)
 have HF2:=hid (HF.out.below ((Below.refl _ _).alloc (Nat.le_refl _) (.cells #[.string tSHORT,.string tLONG,.string tNUM] 9)).drew)
 have HG:=hid (show Go2 L w L (((w1.setCell ⟨i.fb,0,none⟩ (.int .i64 n)).alloc (.cells #[.string tSHORT,.string tLONG,.string tNUM] 9)).drew) from ((Go2.of_below HB1.out).trans ⟨set_kept' HM1.out.fbL,fun x hx=>.inl hx⟩).trans (Go2.of_below ((Below.refl _ _).alloc (Nat.le_refl _) (.cells #[.string tSHORT,.string tLONG,.string tNUM] 9)).drew))
 have hwr:IntKind.i64.wrap n=n:=by rw [IntKind.wrap_i64];omega
 clear hn
 go_wp2_with fail
 go_region_with (go_at_call 110;refine (HI.out _ (by first | exact heap_alloc_new w1 _ | exact heap_alloc_new w1.drew _)).mono ?_;rintro e w2 ⟨rfl,rfl⟩)
 all_goals
  have c0'':=HF2.out.r0
  have e0'':=HF2.out.f0
  rcases Int.lt_or_le 0 n with h0 | h0
  ·have HR2:Hid (kindR S (fieldAt row 1)=.ok { S.fl with kind:=n }):=hid (by rw [HR.out,if_neg (by omega)])
   go_wp2_with fail
   refine (so_must i.rb S.line _ _ _ (by decide) HF2.out.r2).mono ?_
   rintro e w' ⟨⟨-,rfl⟩ | ⟨h,-⟩,rfl⟩
   ·go_wp2_with fail
    go_end0
    rw [HR2.out]
    exact⟨L,HG.out,rfl,HB.out.mono.same _ rfl rfl rfl rfl ⟨by show 1≤n;omega,hn3.2⟩ HB.out.sp,v,HF2.out⟩
   exact absurd h (by simp)
  have HR2:Hid (kindR S (fieldAt row 1)=.error 114):=hid (by rw [HR.out,if_pos (by omega)])
  go_wp2_with fail
  refine (so_must i.rb S.line _ _ _ (by decide) HF2.out.r2).mono ?_
  rintro e w' ⟨⟨h,-⟩ | ⟨-,rfl⟩,rfl⟩
  ·exact absurd h (by simp;omega)
  rw [HR2.out]
  exact⟨rfl,L,HG.out,rfl⟩
def spec5:List ByteArray:=[kNEED,kFORBID,kKEEP,kPART,kQUIET]
theorem spec_idx (n:Nat) (hn:n < 5):Lib.idxOfS spec5 (keyS (3+n))=(n:Int):=by
 have:∀n,n < 5→Lib.idxOfS spec5 (keyS (3+n))=(n:Int):=by
  intro n hn
  rcases n with _ | _ | _ | _ | _ | n<;>first | rfl | omega
 exact this n hn
theorem file_sp (i:Ids) (v:Vs) (F:Fl) (n:Nat) (hn:n < 5):(fileV i v F)[3+n]?=some (.int .u16 (spAt F n)):=by
 rcases n with _ | _ | _ | _ | _ | n<;>first | rfl | omega
theorem file_setSp (i:Ids) (v:Vs) (F:Fl) (n:Nat) (hn:n < 5) (f:Int):(fileV i v F).setIfInBounds (3+n) (.int .u16 f)=fileV i v (setSp F n f):=by
 rcases n with _ | _ | _ | _ | _ | n<;>first | rfl | omega
theorem setSp_rest (F:Fl) (n:Nat) (f:Int):(setSp F n f).reps=F.reps∧(setSp F n f).als=F.als∧(setSp F n f).cls=F.cls∧(setSp F n f).rls=F.rls∧(setSp F n f).kind=F.kind:=by
 unfold setSp;split<;>simp
theorem setSp_at (F:Fl) (n:Nat) (hn:n < 5) (f:Int) (m:Nat):spAt (setSp F n f) m=if m=n then f else spAt F m:=by
 rcases n with _ | _ | _ | _ | _ | n<;>try omega
 all_goals (rcases m with _ | _ | _ | _ | _ | m<;>simp [setSp,spAt])
theorem defined_iff (F:Fl) (t:Int):definedB F t=true↔(∃n,n < 5∧spAt F n=t)∨(findC F t).isSome=true:=by
 unfold definedB
 simp only [Bool.or_eq_true,beq_iff_eq]
 constructor
 ·rintro (((((h | h) | h) | h) | h) | h)
  ·exact .inl ⟨0,by decide,h⟩
  ·exact .inl ⟨1,by decide,h⟩
  ·exact .inl ⟨2,by decide,h⟩
  ·exact .inl ⟨3,by decide,h⟩
  ·exact .inl ⟨4,by decide,h⟩
  exact .inr h
 rintro (⟨n,hn,h⟩ | h)
 ·rcases n with _ | _ | _ | _ | _ | n
  ·exact .inl (.inl (.inl (.inl (.inl h))))
  ·exact .inl (.inl (.inl (.inl (.inr h))))
  ·exact .inl (.inl (.inl (.inr h)))
  ·exact .inl (.inl (.inr h))
  ·exact .inl (.inr h)
  omega
 exact .inr h
theorem taken_sp (F:Fl) (n:Nat) (hn:n < 5) (f:Int) (hf:f≠0) (h0:spAt F n=0):(fun t=>if t=f then 1 else takenF F t)=takenF (setSp F n f):=by
 funext t
 have hc:findC (setSp F n f) t=findC F t:=by unfold findC;rw [(setSp_rest F n f).2.2.1]
 by_cases ht:t=f
 ·subst ht
  rw [if_pos rfl,takenF,if_neg hf,if_pos ((defined_iff _ _).2 (.inl ⟨n,hn,by rw [setSp_at F n hn,if_pos rfl]⟩))]
 rw [if_neg ht]
 unfold takenF
 by_cases h00:t=0
 ·rw [if_pos h00,if_pos h00]
 rw [if_neg h00,if_neg h00]
 have:definedB (setSp F n f) t=definedB F t:=by
  rw [Bool.eq_iff_iff,defined_iff,defined_iff,hc]
  constructor
  ·rintro (⟨m,hm,h⟩ | h)
   ·rw [setSp_at F n hn] at h
    split at h
    ·exact absurd h.symm ht
    exact .inl ⟨m,hm,h⟩
   exact .inr h
  rintro (⟨m,hm,h⟩ | h)
  ·refine .inl ⟨m,hm,?_⟩
   rw [setSp_at F n hn,if_neg]
   ·exact h
   rintro rfl;exact h00 (h.symm.trans h0)
  exact .inr h
 rw [this]
theorem nz_sp (F:Fl) (n:Nat) (hn:n < 5) (f:Int) (hf:f≠0) (h0:spAt F n=0):nzF (setSp F n f)=nzF F+1:=by
 rcases n with _ | _ | _ | _ | _ | n<;>try omega
 all_goals
  simp only [spAt] at h0
  simp [nzF,setSp,nz1,h0,hf]
  try omega
theorem so_special (w0:World) (L:List Nat) (i:Ids) (E:Int) (kh k:Nat) (S:Sx) (fv:Value) (row:List ByteArray) (n:Nat) (w:World) (h:RM w0 w L i E kh (k+1) S) (hr:RowF1 w0 fv row) (hl:row.length=2) (hn:n < 5) (hk:fieldAt row 0=keyS (3+n)) (h0:spAt S.fl n=0) :
  Calls Tryz.prog 78 #[.pointer (some ⟨i.rb,0,none⟩),fv] w (HeadP w0 L i E kh k (onFl S.line S (specialR S.fl n (fieldAt row 1))) w):=by
 have hsz:=fieldAt_le hr.each 1
 have HFR:=hid (so_fresh w0 L i E kh (k+1) S (fieldAt row 1) w h (by omega))
 obtain⟨g,o,c,rfl,hc,hcells⟩:=hr.cells (by omega)
 have d0:=hcells 0 (by omega)
 rw [Nat.add_zero] at d0
 have d1:=field_in (hcells 1 (by omega)) h.base
 obtain⟨hbd,v,hm⟩:=h
 have HM:=hid hm
 have HB:=hid hbd
 rw [hl] at hc ⊢
 rw [hk] at d0
 have D0:=hid d0
 clear hcells hm hbd hr hk d0
 unfold specialR
 have hfr:∀f,freshR S.fl (fieldAt row 1)=.ok f→f≠0∧0≤f∧f≤65535∧definedB S.fl f=false:=fun f hf=>by
  unfold freshR at hf
  have b:=oneF_bd S.fl.kind (fieldAt row 1).data.toList
  have z:=oneF_pos S.fl.kind (fieldAt row 1).data.toList
  split at hf
  ·cases hf
  rename_i h2
  split at hf
  ·cases hf
  rename_i h3
  injection hf with hf
  subst hf
  exact⟨z (by simpa using h2),b.1,b.2,by simpa using h3⟩
 cases hq:freshR S.fl (fieldAt row 1) with
 | error e =>
  rw [hq] at HFR
  clear hfr hq
  go_enter Tryz.func78,Tryz.ntmps78
  go_wp2_with fail
  refine HFR.out.mono ?_
  rintro e' w' ⟨hb,rfl⟩
  exact⟨rfl,L,Go2.of_below hb,rfl⟩
 | ok f =>
  rw [hq] at HFR
  obtain⟨f0,f1,f2,f3⟩:=hfr f hq
  have HT0:Hid (takenF S.fl f=0):=hid (by unfold takenF;rw [if_neg f0,f3];rfl)
  have HTK:=hid (taken_sp S.fl n hn f f0 h0)
  have HNZ:=hid (nz_sp S.fl n hn f f0 h0)
  clear hfr hq f3 h0
  go_enter Tryz.func78,Tryz.ntmps78
  go_wp2_with fail
  refine HFR.out.mono ?_
  rintro e' w1 ⟨hb,rfl⟩
  have HB1:=hid hb
  have HM1:=hid (HM.out.below hb)
  clear hb
  have c5:=HM1.out.r5
  have hlk:=HM1.out.taken.look f ⟨f1,f2⟩
  rw [HT0.out] at hlk
  obtain⟨w2,hst,hcn,hkp⟩:=HM1.out.taken.store f ⟨f1,f2⟩ 1 (by decide) (by have:=HB.out.cls;unfold nzF nz1;(repeat' split)<;>omega)
  have HM2:=hid (HM1.out.setTaken hkp hcn)
  have HK2:=hid (show Go2 L w L w2 from (Go2.of_below HB1.out).trans ⟨hkp.mono (by intro x hx;simp at hx;subst hx;exact HM1.out.tbL),fun x hx=>.inl hx⟩)
  clear hcn hkp
  go_wp2_with fail
  have HI:Hid (∀W:World,W.heap[w2.heap.size]?=some (.cells #[.string kNEED,.string kFORBID,.string kKEEP,.string kPART,.string kQUIET] 9 (0,0))→Calls Tryz.prog 110 #[.slice (some ⟨w2.heap.size,0,none⟩) 5 5,.string (keyS (3+n))] W fun e w'=>e=.returned (.int .i64 (n:Int))∧W=w'):=hid (by
   intro W hW
   refine (Tryz.slices_Index_string w2.heap.size 0 5 5 spec5 (keyS (3+n)) W (by decide) (by decide) ?_).mono ?_
   ·intro j hj
    rw [cell_of_row _ w2.heap.size (0+j) _ 9 (0,0) hW]
    have hj':j < 5:=hj
    rcases j with _ | _ | _ | _ | _ | j<;>first | rfl | omega
   rintro e w' ⟨rfl,rfl⟩
   exact⟨ret_int (by rw [show spec5.take 5=spec5 from rfl,spec_idx n hn]),rfl⟩)
  have d0:=(HM2.out.base.cell (block_lt_of_cell? w0 _ D0.out)).trans D0.out
  have c0:=HM2.out.r0
  have en:w2.cell? ⟨i.fb,3+n,none⟩=some (.int .u16 (spAt S.fl n)):=by rw [cell_of_heap HM2.out.file];exact file_sp i v S.fl n hn
  have fz:=HM2.out.fz (3+n)
  have hfl:=(HM2.out.hl _ HM2.out.fbL).2
  have hrl:=(HM2.out.hl _ HM2.out.rbL).2
  have hgl:g < w2.heap.size:=block_lt_of_cell? w2 _ d0
  have HF:=hid (HM2.out.setF (F':=setSp S.fl n f) (3+n) (.int .u16 f) (file_setSp i v S.fl n hn f) (setSp_rest _ _ _).1 (setSp_rest _ _ _).2.1 (setSp_rest _ _ _).2.2.1 (setSp_rest _ _ _).2.2.2.1)
  have hn5:(n:Int) < 5:=by omega
  go_region_with (go_at_call 110;refine (HI.out _ (by first | exact heap_alloc_new w2 _ | exact heap_alloc_new w2.drew _)).mono ?_;rintro e w3 ⟨rfl,rfl⟩)
  all_goals go_end0
  all_goals
   refine⟨L,HK2.out.trans ⟨?_,fun x hx=>.inl hx⟩,rfl,?_,v,?_⟩
   ·exact ((set_kept' HM2.out.fbL).alloc _).drew
   ·refine HB.out.mono.same _ (setSp_rest _ _ _).1 (setSp_rest _ _ _).2.1 (setSp_rest _ _ _).2.2.1 (setSp_rest _ _ _).2.2.2.1 (by rw [(setSp_rest _ _ _).2.2.2.2];exact HB.out.kind) (fun m=>?_)
    rw [setSp_at _ _ hn]
    split
    ·exact⟨f1,f2⟩
    exact HB.out.sp m
   have hz:=HF.out.below (((Below.refl _ _).alloc (Nat.le_refl _) (.cells #[.string kNEED,.string kFORBID,.string kKEEP,.string kPART,.string kQUIET] 9)).drew)
   obtain⟨e1,e2,e3,e4,e5⟩:=setSp_rest S.fl n f
   show RMv w0 _ L i v E _ ((setSp S.fl n f).rls.map (·.line)) (takenF (setSp S.fl n f)) (nzF (setSp S.fl n f)+(setSp S.fl n f).cls.length) (clsIx (setSp S.fl n f).cls) (setSp S.fl n f).cls.length
   rw [e3,e4,←HTK.out,HNZ.out,Nat.add_right_comm]
   exact hz
theorem sorted_len:∀(l:List Int) (lo hi:Int),l.Pairwise (· < ·)→(∀x∈l,lo≤x∧x≤hi)→(l.length:Int)≤hi - lo+1∨l=[]
 | [],_,_,_,_=>.inr rfl
 | [a],lo,hi,_,h=>.inl (by have:=h a (by simp);show (1:Int)≤_;omega)
 | a::b::l,lo,hi,hs,h=>by
   rw [List.pairwise_cons] at hs
   have ha:=h a (by simp)
   rcases sorted_len (b::l) (a+1) hi hs.2 (fun x hx=>⟨by have:=hs.1 x hx;omega,(h x (List.mem_cons_of_mem _ hx)).2⟩) with h1 | h1
   ·left
    rw [List.length_cons]
    omega
   ·cases h1
theorem canon_len {a:List Int} (h:canon a=a) (hb:∀x∈a,0≤x∧x≤65535):a.length≤65536:=by
 rcases sorted_len a 0 65535 (by rw [←h];exact canon_sorted a) hb with h1 | h1
 ·omega
 rw [h1];exact Nat.zero_le _
theorem Bd.pushCls {kh k:Nat} {S:Sx} (h:Bd kh (k+1) S) (c:Cl) (hc:0 < c.flag∧c.flag≤65535):Bd kh k { S with fl:={ S.fl with cls:=S.fl.cls++[c] } } :=
 ⟨h.row,h.heads,h.headS,by have:=h.reps;show S.fl.reps.length+S.rows.length+k≤65536;omega,by have:=h.als;show S.fl.als.length+S.rows.length+k≤65536;omega,
  by have:=h.cls;show (S.fl.cls++[c]).length+S.rows.length+k≤65536;rw [List.length_append];show S.fl.cls.length+1+S.rows.length+k≤65536;omega,by have:=h.rls;show S.fl.rls.length+S.rows.length+k≤65536;omega,
  fun b hb=>by
   rcases List.mem_append.1 hb with hb | hb
   ·exact h.flags b hb
   ·simp at hb;subst hb;exact hc,h.sets,h.nexts,h.kind,h.sp,h.line⟩
theorem Bd.pushRls {kh k:Nat} {S:Sx} (h:Bd (kh+1) (k+1) S) (r:Rl) (hr:canon r.next=r.next∧∀x∈r.next,0≤x∧x≤65535):Bd kh k { S with fl:={ S.fl with rls:=S.fl.rls++[r] } } :=
 ⟨h.row,by have:=h.heads;show S.heads.length+S.rows.length+kh≤65536;omega,h.headS,by have:=h.reps;show S.fl.reps.length+S.rows.length+k≤65536;omega,by have:=h.als;show S.fl.als.length+S.rows.length+k≤65536;omega,
  by have:=h.cls;show S.fl.cls.length+S.rows.length+k≤65536;omega,by have:=h.rls;show (S.fl.rls++[r]).length+S.rows.length+k≤65536;rw [List.length_append];show S.fl.rls.length+1+S.rows.length+k≤65536;omega,h.flags,h.sets,
  fun b hb=>by
   rcases List.mem_append.1 hb with hb | hb
   ·exact h.nexts b hb
   ·simp at hb;subst hb;exact hr,h.kind,h.sp,h.line⟩
theorem findC_none {F:Fl} {f:Int} (h:definedB F f=false):findC F f=none:=by
 rcases hq:findC F f with _ | c
 ·rfl
 unfold definedB at h;rw [hq] at h;simp at h
theorem definedB_snoc (F:Fl) (c:Cl) (t:Int):definedB { F with cls:=F.cls++[c] } t=(definedB F t||c.flag==t):=by
 unfold definedB findC
 show (F.s0==t||F.s1==t||F.s2==t||F.s3==t||F.s4==t||((F.cls++[c]).find? (fun c=>c.flag==t)).isSome)=_
 rw [List.find?_append]
 rcases hq:F.cls.find? (fun c=>c.flag==t) with _ | d
 ·rcases hc:c.flag==t<;>simp [List.find?,hc]
 simp [hq]
theorem taken_cl (F:Fl) (c:Cl) (hf:c.flag≠0):(fun t=>if t=c.flag then 1 else takenF F t)=takenF { F with cls:=F.cls++[c] }:=by
 funext t
 unfold takenF
 rw [definedB_snoc]
 by_cases ht:t=c.flag
 ·subst ht
  rw [if_pos rfl,if_neg hf];simp
 have:(c.flag==t)=false:=by rw [beq_eq_false_iff_ne];exact Ne.symm ht
 rw [if_neg ht,this,Bool.or_false]
theorem clsIx_snoc (cls:List Cl) (c:Cl) (h:clsIx cls c.flag=none):(fun t=>if t=c.flag then some cls.length else clsIx cls t)=clsIx (cls++[c]):=by
 funext t
 unfold clsIx at h ⊢
 rw [List.findIdx?_append]
 by_cases ht:t=c.flag
 ·subst ht
  rw [if_pos rfl,h];simp [List.findIdx?_cons]
 have:(c.flag==t)=false:=by rw [beq_eq_false_iff_ne];exact Ne.symm ht
 rw [if_neg ht]
 rcases hq:cls.findIdx? (fun c=>c.flag==t) with _ | d
 ·simp [List.findIdx?_cons,this]
 simp [hq]
theorem clsIx_none {F:Fl} {f:Int} (h:findC F f=none):clsIx F.cls f=none:=by
 unfold clsIx
 rw [List.findIdx?_eq_none_iff]
 unfold findC at h
 rw [List.find?_eq_none] at h
 intro x hx
 simpa using h x hx
theorem flagsR_bd (F:Fl) (s:ByteArray) (hs:∀a∈F.als,∀x∈a,0≤x∧x≤65535):∀x∈(flagsR F s).1,0≤x∧x≤65535:=by
 unfold flagsR
 split
 ·exact readF_bd _ _
 split
 ·intro x hx;simp at hx
 intro x hx
 rw [List.getD] at hx
 rcases hj:F.als[(numVal s.data.toList F.als.length - 1).toNat]? with _ | a
 ·rw [hj] at hx;simp at hx
 rw [hj] at hx;exact hs a (List.mem_of_getElem? hj) x hx
theorem flagsR_canon (F:Fl) (s:ByteArray) (hs:∀a∈F.als,canon a=a):canon (flagsR F s).1=(flagsR F s).1:=by
 unfold flagsR
 split
 ·exact readF_canon _ _
 split
 ·exact canon_nil
 show canon (F.als.getD _ [])=F.als.getD _ []
 rw [List.getD]
 rcases hj:F.als[(numVal s.data.toList F.als.length - 1).toNat]? with _ | a
 ·exact canon_nil
 exact hs a (List.mem_of_getElem? hj)
theorem ruleR_next {F:Fl} {c:Cl} {line:Int} {row:List ByteArray} {r:Rl} (h:ruleR F c line row=.ok r) (hs:∀a∈F.als,canon a=a∧∀x∈a,0≤x∧x≤65535):(canon r.next=r.next∧∀x∈r.next,0≤x∧x≤65535)∧r.line=line:=by
 unfold ruleR at h
 split at h
 ·cases h
 split at h
 ·cases h
 split at h
 split at h
 ·cases h
 split at h
 ·cases h
 split at h
 ·cases h
 rename_i hn
 split at h
 ·cases h
 cases h
 refine⟨?_,rfl⟩
 show canon _=_∧∀x∈_,_
 unfold nextR at hn
 split at hn
 ·split at hn
  ·cases hn
  split at hn
  ·cases hn
  cases hn;exact⟨flagsR_canon F _ (fun a ha=>(hs a ha).1),flagsR_bd F _ (fun a ha=>(hs a ha).2)⟩
 cases hn;exact⟨canon_nil,fun x hx=>by simp at hx⟩
theorem RMv.fileF {w0 w:World} {L:List Nat} {i:Ids} {v:Vs} {E:Int} {S:Sx} {nx:List Int} {tf:Int→Int} {tn cn:Nat} {cf:Int→Option Nat} (h:RMv w0 w L i v E S nx tf tn cf cn) (hs:∀a∈S.fl.als,canon a=a∧∀x∈a,0≤x∧x≤65535) :
  ∃us,FileF w i.fb S.fl.kind v.als us S.fl.als:=by
 obtain⟨us,h1,h2,h3⟩:=h.als
 exact⟨us,h.f0,h.f10,Rd.of_own h1.1,fun k u a hu ha=>(h3 k u a hu ha).fs,fun a ha=>⟨(hs a ha).1,canon_len (hs a ha).1 (hs a ha).2⟩⟩
def clArr (f k:Int) (cr:Bool) (fi n:Int):Array Value:=#[.int .u16 f,.int .i64 k,.bool cr,.int .i64 fi,.int .i64 n]
structure ClW (w W:World) (b:Nat) (f k:Int) (cr:Bool) (fi n:Int):Prop where
 below:Below w.heap.size w W
 new:w.heap.size≤b
 box:W.heap[b]?=some (.cells (clArr f k cr fi n) 99 (0,0))
section
variable {w W W':World} {b:Nat} {f k:Int} {cr:Bool} {fi n:Int}
theorem ClW.later (h:ClW w W b f k cr fi n) (hb:Below W.heap.size W W'):ClW w W' b f k cr fi n :=
 ⟨h.below.trans (hb.mono h.below.size),h.new,(hb.block _ (block_lt h.box)).trans h.box⟩
theorem ClW.c0 (h:ClW w W b f k cr fi n):W.cell? ⟨b,0,none⟩=some (.int .u16 f):=by rw [cell_of_heap h.box];rfl
theorem ClW.c1 (h:ClW w W b f k cr fi n):W.cell? ⟨b,1,none⟩=some (.int .i64 k):=by rw [cell_of_heap h.box];rfl
theorem ClW.c2 (h:ClW w W b f k cr fi n):W.cell? ⟨b,2,none⟩=some (.bool cr):=by rw [cell_of_heap h.box];rfl
theorem ClW.c3 (h:ClW w W b f k cr fi n):W.cell? ⟨b,3,none⟩=some (.int .i64 fi):=by rw [cell_of_heap h.box];rfl
theorem ClW.c4 (h:ClW w W b f k cr fi n):W.cell? ⟨b,4,none⟩=some (.int .i64 n):=by rw [cell_of_heap h.box];rfl
theorem ClW.fz (h:ClW w W b f k cr fi n) (j:Nat):W.frozen? ⟨b,j,none⟩=false:=frozen_of_heap h.box j
theorem ClW.setKind (h:ClW w W b f k cr fi n) (k':Int):ClW w (W.setCell ⟨b,1,none⟩ (.int .i64 k')) b f k' cr fi n :=
 ⟨h.below.setCell h.new _,h.new,heap_setCell_same _ _ _ _ _ _ h.box⟩
theorem ClW.setCross (h:ClW w W b f k cr fi n) (c':Bool):ClW w (W.setCell ⟨b,2,none⟩ (.bool c')) b f k c' fi n :=
 ⟨h.below.setCell h.new _,h.new,heap_setCell_same _ _ _ _ _ _ h.box⟩
theorem ClW.setCount (h:ClW w W b f k cr fi n) (n':Int):ClW w (W.setCell ⟨b,4,none⟩ (.int .i64 n')) b f k cr fi n' :=
 ⟨h.below.setCell h.new _,h.new,heap_setCell_same _ _ _ _ _ _ h.box⟩
theorem ClW.fill (h:ClW w W b f k cr fi n) (f' k':Int) (c':Bool) (fi' n':Int):ClW w (((((W.setCell ⟨b,0,none⟩ (.int .u16 f')).setCell ⟨b,1,none⟩ (.int .i64 k')).setCell ⟨b,2,none⟩ (.bool c')).setCell ⟨b,3,none⟩ (.int .i64 fi')).setCell ⟨b,4,none⟩ (.int .i64 n')) b f' k' c' fi' n':=by
 refine⟨((((h.below.setCell h.new _).setCell h.new _).setCell h.new _).setCell h.new _).setCell h.new _,h.new,?_⟩
 have h1:=heap_setCell_same W b 0 _ 99 (.int .u16 f') h.box
 have h2:=heap_setCell_same _ b 1 _ 99 (.int .i64 k') h1
 have h3:=heap_setCell_same _ b 2 _ 99 (.bool c') h2
 have h4:=heap_setCell_same _ b 3 _ 99 (.int .i64 fi') h3
 exact heap_setCell_same _ b 4 _ 99 (.int .i64 n') h4
theorem ClW.fresh_ (hb:Below w.heap.size w W):ClW w (W.alloc (.cells (clArr f k cr fi n) 99)) W.heap.size f k cr fi n :=
 ⟨hb.alloc hb.size _,hb.size,heap_alloc_new W _⟩
end
def ClB (W:World) (L:List Nat) (b:Nat) (c:Cl):Prop:=b∉L∧W.heap[b]?=some (.cells #[.int .u16 c.flag,.int .i64 c.kind,.bool c.cross,.int .i64 c.first,.int .i64 c.count] 99 (0,0))
theorem ClB.go {W W':World} {L L':List Nat} {b:Nat} {c:Cl} (h:ClB W L b c) (hg:Go2 L W L' W'):ClB W' L' b c :=
 ⟨fun hm=>by
  rcases hg.2 b hm with h1 | h1
  ·exact h.1 h1
  ·have:=block_lt h.2;omega,hg.1.at h.2 h.1⟩
theorem ClB.cells {W:World} {L:List Nat} {b:Nat} {c:Cl} (h:ClB W L b c):W.cell? ⟨b,0,none⟩=some (.int .u16 c.flag)∧W.cell? ⟨b,1,none⟩=some (.int .i64 c.kind)∧W.cell? ⟨b,2,none⟩=some (.bool c.cross)∧W.cell? ⟨b,3,none⟩=some (.int .i64 c.first)∧W.cell? ⟨b,4,none⟩=some (.int .i64 c.count):=by
 refine⟨?_,?_,?_,?_,?_⟩<;>(rw [cell_of_heap h.2];rfl)
theorem ClW.cb {w W:World} {L:List Nat} {b:Nat} {f k:Int} {cr:Bool} {fi n:Int} (h:ClW w W b f k cr fi n) (hL:∀x∈L,x < w.heap.size):ClB W L b ⟨f,k,cr,fi,n⟩ :=
 ⟨fun hm=>by have:=hL b hm;have:=h.new;omega,h.box⟩
theorem ClB.grown {W W1:World} {L:List Nat} {b:Nat} {c:Cl} {r:Option Nat} (h:ClB W L b c) (hg:W.grownBy W1 r) (hr:∀g,r=some g→g∈L):W1.heap[b]?=some (.cells #[.int .u16 c.flag,.int .i64 c.kind,.bool c.cross,.int .i64 c.first,.int .i64 c.count] 99 (0,0)) :=
 (hg.block b (block_lt h.2) (fun e=>h.1 (hr b e.symm))).trans h.2
theorem cl_cells {W:World} {b:Nat} {c:Cl} (h:W.heap[b]?=some (.cells #[.int .u16 c.flag,.int .i64 c.kind,.bool c.cross,.int .i64 c.first,.int .i64 c.count] 99 (0,0))):W.cell? ⟨b,0,none⟩=some (.int .u16 c.flag)∧W.cell? ⟨b,1,none⟩=some (.int .i64 c.kind)∧W.cell? ⟨b,2,none⟩=some (.bool c.cross)∧W.cell? ⟨b,3,none⟩=some (.int .i64 c.first)∧W.cell? ⟨b,4,none⟩=some (.int .i64 c.count):=by
 refine⟨?_,?_,?_,?_,?_⟩<;>(rw [cell_of_heap h];rfl)
theorem RM.of_cls {w0 w:World} {L:List Nat} {i:Ids} {v:Vs} {E:Int} {kh k:Nat} {S:Sx} {c:Cl} (hb:Bd kh (k+1) S) (hf:0 < c.flag∧c.flag≤65535) (hd:definedB S.fl c.flag=false)
  (h:RMv w0 w L i v E { S with fl:={ S.fl with cls:=S.fl.cls++[c] } } (S.fl.rls.map (·.line)) (fun t=>if t=c.flag then 1 else takenF S.fl t) (nzF S.fl+S.fl.cls.length+1) (fun t=>if t=c.flag then some S.fl.cls.length else clsIx S.fl.cls t) (S.fl.cls.length+1)) :
  RM w0 w L i E kh k { S with fl:={ S.fl with cls:=S.fl.cls++[c] } }:=by
 refine⟨hb.pushCls c hf,v,?_⟩
 have e1:=taken_cl S.fl c (by omega)
 have e2:=clsIx_snoc S.fl.cls c (clsIx_none (findC_none hd))
 show RMv w0 w L i v E _ (S.fl.rls.map (·.line)) (takenF { S.fl with cls:=S.fl.cls++[c] }) (nzF S.fl+(S.fl.cls++[c]).length) (clsIx (S.fl.cls++[c])) (S.fl.cls++[c]).length
 rw [←e1,←e2,List.length_append]
 exact h
theorem RM.of_rls {w0 w:World} {L:List Nat} {i:Ids} {v:Vs} {E:Int} {kh k:Nat} {S:Sx} {r:Rl} {nx:List Int} (hb:Bd (kh+1) (k+1) S) (hr:(canon r.next=r.next∧∀x∈r.next,0≤x∧x≤65535)∧r.line=S.line) (hn:S.fl.rls.map (·.line)=nx)
  (h:RMv w0 w L i v E { S with fl:={ S.fl with rls:=S.fl.rls++[r] } } (nx++[S.line]) (takenF S.fl) (nzF S.fl+S.fl.cls.length) (clsIx S.fl.cls) S.fl.cls.length):RM w0 w L i E kh k { S with fl:={ S.fl with rls:=S.fl.rls++[r] } }:=by
 refine⟨hb.pushRls r hr.1,v,?_⟩
 show RMv w0 w L i v E _ ((S.fl.rls++[r]).map (·.line)) (takenF S.fl) (nzF S.fl+S.fl.cls.length) (clsIx S.fl.cls) S.fl.cls.length
 rw [List.map_append,hn,List.map_singleton,hr.2]
 exact h
theorem class_info2:(Tryz.prog.info? 99).map (fun i=>(i.zero,i.size,i.bytes))=some (some (.agg #[.int .u16 0,.int .i64 0,.bool false,.int .i64 0,.int .i64 0]),5,40):=by kernel_rfl
theorem rule_info:(Tryz.prog.info? 31).map (fun i=>(i.zero,i.size,i.bytes))=some (some (.agg #[.int .i64 0,.int .u16 0,.bool false,.string ByteArray.empty,.string ByteArray.empty,.string ByteArray.empty,.slice none 0 0]),7,88):=by kernel_rfl
theorem int_info2:(Tryz.prog.info? 3).map (fun i=>(i.zero,i.size,i.bytes))=some (some (.int .i64 0),1,8):=by kernel_rfl
structure ClsF (w:World) (fb:Nat) (cls:List Cl):Prop where
 map:∃mb n,w.cell? ⟨fb,13,none⟩=some (.map (some mb))∧PlF w mb n (clsIx cls)
 row:∃cv,w.cell? ⟨fb,11,none⟩=some cv∧Rd w 5 cv cls.length (clsCells cls)
theorem PlF.below {w w':World} {b n:Nat} {f:Int→Option Nat} (h:PlF w b n f) (hb:Below w.heap.size w w'):PlF w' b n f:=h.keep (E:=[]) (Kept.of_below hb) (by simp)
theorem ClsF.later {w w':World} {fb:Nat} {cls:List Cl} (h:ClsF w fb cls) (hb:Below w.heap.size w w'):ClsF w' fb cls:=by
 obtain⟨mb,n,h1,h2⟩:=h.map
 obtain⟨cv,h3,h4⟩:=h.row
 exact⟨⟨mb,n,(hb.cell (block_lt_of_cell? _ _ h1)).trans h1,h2.below hb⟩,⟨cv,(hb.cell (block_lt_of_cell? _ _ h3)).trans h3,h4.keep hb⟩⟩
theorem RMv.clsF {w0 w:World} {L:List Nat} {i:Ids} {v:Vs} {E:Int} {S:Sx} {nx:List Int} {tf:Int→Int} {tn cn:Nat} (h:RMv w0 w L i v E S nx tf tn (clsIx S.fl.cls) cn):ClsF w i.fb S.fl.cls :=
 ⟨⟨i.mb,cn,h.f13,h.cmap⟩,⟨v.cls,h.f11,Rd.of_own h.cls.1⟩⟩
theorem find_ix:∀(cls:List Cl) (f:Int),cls.find? (fun c=>c.flag==f)=match clsIx cls f with | some k=>cls[k]? | none=>none
 | [],f=>rfl
 | c::cls,f=>by
   have ih:=find_ix cls f
   unfold clsIx at ih ⊢
   rw [List.find?_cons,List.findIdx?_cons]
   rcases hc:c.flag==f
   ·simp only [Bool.false_eq_true,if_false]
    rw [ih]
    rcases hq:List.findIdx? (fun c=>c.flag==f) cls with _ | k<;>simp [hq]
   ·rfl
theorem clsIx_lt {cls:List Cl} {f:Int} {k:Nat} (h:clsIx cls f=some k):k < cls.length:=by
 unfold clsIx at h
 rw [List.findIdx?_eq_some_iff_getElem] at h
 exact h.1
theorem cls_at:∀(cs:List Cl) (k:Nat) (hk:k < cs.length),(clsCells cs)[k*5]?=some (.int .u16 cs[k].flag)∧(clsCells cs)[k*5+1]?=some (.int .i64 cs[k].kind)∧(clsCells cs)[k*5+2]?=some (.bool cs[k].cross)∧(clsCells cs)[k*5+3]?=some (.int .i64 cs[k].first)∧(clsCells cs)[k*5+4]?=some (.int .i64 cs[k].count)
 | [],_,hk=>absurd hk (Nat.not_lt_zero _)
 | c::r,0,_=>⟨rfl,rfl,rfl,rfl,rfl⟩
 | c::r,k+1,hk=>by
   have:=cls_at r k (by simpa using hk)
   have e:clsCells (c::r)=[.int .u16 c.flag,.int .i64 c.kind,.bool c.cross,.int .i64 c.first,.int .i64 c.count]++clsCells r:=by simp [clsCells]
   have key:∀j,(clsCells (c::r))[(k+1)*5+j]?=(clsCells r)[k*5+j]?:=fun j=>by
    rw [e,List.getElem?_append_right (by simp;omega)]
    congr 1
    simp;omega
   refine⟨(key 0).trans this.1,(key 1).trans this.2.1,(key 2).trans this.2.2.1,(key 3).trans this.2.2.2.1,(key 4).trans this.2.2.2.2⟩
def clsV (c:Cl):Value:=.agg #[.int .u16 c.flag,.int .i64 c.kind,.bool c.cross,.int .i64 c.first,.int .i64 c.count]
def clsP (o:Option Cl):Value:=.tuple #[clsV (o.getD noCl),.bool o.isSome]
theorem so_Class (fb:Nat) (cls:List Cl) (x:Int) (w:World) (h:ClsF w fb cls) (hx:0≤x∧x≤65535) (hn:cls.length≤65536) :
  Calls Tryz.prog 38 #[.pointer (some ⟨fb,0,none⟩),.int .u16 x] w fun e w'=>e=.returned (clsP (cls.find? (fun c=>c.flag==x)))∧Below w.heap.size w w':=by
 obtain⟨mb,n,c13,hp⟩:=h.map
 obtain⟨cv,c11,hrd⟩:=h.row
 rw [find_ix]
 obtain⟨-,A,cap,rfl,hcap,hcells⟩:=hrd
 have hlk:∀W,Below w.heap.size w W→(Instr.lookup 114 (.map (some mb)) (.int .u16 x) true).run Tryz.prog W=.ok (.tuple #[.int .i64 (((clsIx cls x).getD 0:Nat):Int),.bool (clsIx cls x).isSome]) W:=fun W hW=>(hp.below hW).look x hx
 have hb1:Below w.heap.size w (w.alloc (.cells #[.int .u16 0,.int .i64 0,.bool false,.int .i64 0,.int .i64 0] 99)):=(Below.refl _ _).alloc (Nat.le_refl _) _
 have hl:=hlk _ hb1
 have e11:=(hb1.cell (block_lt_of_cell? _ _ c11)).trans c11
 have e13:=(hb1.cell (block_lt_of_cell? _ _ c13)).trans c13
 have HB1:=hid hb1
 have HC:=hid hcells
 clear hlk hb1 hcells hp h
 rcases hk:clsIx cls x with _ | k
 ·rw [hk] at hl
  clear hk
  go_enter Tryz.func38,Tryz.ntmps38
  go_wp2_with fail
  refine bodyPost_ret (v:=.tuple #[.agg #[.int .u16 0,.int .i64 0,.bool false,.int .i64 0,.int .i64 0],.bool false]) (by simp [results,Tryz.results38,go_sem];try rfl) rfl ?_
  exact⟨rfl,(Below.refl _ _).alloc (Nat.le_refl _) _⟩
 have hlt:=clsIx_lt hk
 have hge:cls[k]?=some cls[k]:=List.getElem?_eq_getElem hlt
 dsimp only
 rw [hge]
 rw [hk] at hl
 obtain⟨g,o,rfl,hc2⟩:=HC.out.resolve_left (by have:=hlt;omega)
 obtain⟨q0,q1,q2,q3,q4⟩:=cls_at cls k hlt
 have d0:=(HB1.out.cell (block_lt_of_cell? _ _ (hc2 _ _ q0))).trans (hc2 _ _ q0)
 have d1:=(HB1.out.cell (block_lt_of_cell? _ _ (hc2 _ _ q1))).trans (hc2 _ _ q1)
 rw [←Nat.add_assoc] at d1
 have d2:=(HB1.out.cell (block_lt_of_cell? _ _ (hc2 _ _ q2))).trans (hc2 _ _ q2)
 rw [←Nat.add_assoc] at d2
 have d3:=(HB1.out.cell (block_lt_of_cell? _ _ (hc2 _ _ q3))).trans (hc2 _ _ q3)
 rw [←Nat.add_assoc] at d3
 have d4:=(HB1.out.cell (block_lt_of_cell? _ _ (hc2 _ _ q4))).trans (hc2 _ _ q4)
 rw [←Nat.add_assoc] at d4
 generalize cls[k]=c at *
 clear hk hc2 HC q0 q1 q2 q3 q4 hge
 go_enter Tryz.func38,Tryz.ntmps38
 go_wp2_with fail
 refine bodyPost_ret (v:=.tuple #[.agg #[.int .u16 c.flag,.int .i64 c.kind,.bool c.cross,.int .i64 c.first,.int .i64 c.count],.bool true]) (by simp [results,Tryz.results38,go_sem];try rfl) rfl ?_
 exact⟨rfl,(Below.refl _ _).alloc (Nat.le_refl _) _⟩
theorem rls_at:∀(rs:List (Rl×Value)) (k:Nat) (hk:k < rs.length),(rlsCells rs)[k*7]?=some (.int .i64 rs[k].1.kind)∧(rlsCells rs)[k*7+1]?=some (.int .u16 rs[k].1.flag)∧(rlsCells rs)[k*7+2]?=some (.bool rs[k].1.cross)∧(rlsCells rs)[k*7+3]?=some (.string rs[k].1.strip)∧(rlsCells rs)[k*7+4]?=some (.string rs[k].1.add)∧(rlsCells rs)[k*7+5]?=some (.string rs[k].1.cond)∧(rlsCells rs)[k*7+6]?=some rs[k].2
 | [],_,hk=>absurd hk (Nat.not_lt_zero _)
 | c::r,0,_=>⟨rfl,rfl,rfl,rfl,rfl,rfl,rfl⟩
 | c::r,k+1,hk=>by
   have:=rls_at r k (by simpa using hk)
   have e:rlsCells (c::r)=[.int .i64 c.1.kind,.int .u16 c.1.flag,.bool c.1.cross,.string c.1.strip,.string c.1.add,.string c.1.cond,c.2]++rlsCells r:=by simp [rlsCells]
   have key:∀j,(rlsCells (c::r))[(k+1)*7+j]?=(rlsCells r)[k*7+j]?:=fun j=>by
    rw [e,List.getElem?_append_right (by simp;omega)]
    congr 1
    simp;omega
   exact⟨(key 0).trans this.1,(key 1).trans this.2.1,(key 2).trans this.2.2.1,(key 3).trans this.2.2.2.1,(key 4).trans this.2.2.2.2.1,(key 5).trans this.2.2.2.2.2.1,(key 6).trans this.2.2.2.2.2.2⟩
theorem RMv.line_nx {w0 w:World} {L:List Nat} {i:Ids} {v:Vs} {E:Int} {S:Sx} {nx:List Int} {tf:Int→Int} {tn cn:Nat} {cf:Int→Option Nat} (h:RMv w0 w L i v E S nx tf tn cf cn):Rd w 1 v.nxs nx.length (nx.map (Value.int .i64)):=Rd.of_own h.nxs.1
def okTo (F:Fl) (k:Nat):Prop:=∀j (h:j < F.rls.length),j < k→F.rls[j].next.all (goesB F)=true
theorem okTo.none_ {F:Fl} (h:okTo F F.rls.length):checkE F=none:=by
 unfold checkE
 rw [Option.map_eq_none_iff,List.find?_eq_none]
 intro r hr
 obtain⟨j,hj,rfl⟩:=List.mem_iff_getElem.1 hr
 simp [h j hj hj]
theorem okTo.bad {F:Fl} {k:Nat} (h:okTo F k) (hk:k < F.rls.length) (hb:F.rls[k].next.all (goesB F)=false):checkE F=some F.rls[k].line:=by
 unfold checkE
 have:F.rls.find? (fun r=>!(r.next.all (goesB F)))=some F.rls[k]:=by
  rw [List.find?_eq_some_iff_getElem]
  refine⟨by simp [hb],k,hk,rfl,fun j hj=>?_⟩
  simp [h j (by omega) hj]
 rw [this];rfl
theorem okTo.step {F:Fl} {k:Nat} (h:okTo F k) (hk:k < F.rls.length) (hb:F.rls[k].next.all (goesB F)=true):okTo F (k+1):=by
 intro j hj hjk
 by_cases e:j=k
 ·subst e;exact hb
 exact h j hj (by omega)
theorem RMv.f3 {w0 w:World} {L:List Nat} {i:Ids} {v:Vs} {E:Int} {S:Sx} {nx:List Int} {tf:Int→Int} {tn cn:Nat} {cf:Int→Option Nat} (h:RMv w0 w L i v E S nx tf tn cf cn):w.cell? ⟨i.fb,3,none⟩=some (.int .u16 S.fl.s0):=by rw [cell_of_heap h.file];rfl
theorem goes_of (F:Fl) (x:Int) (d:Cl) (is:Bool) (hd:(F.cls.find? (fun c=>c.flag==x)).getD noCl=d) (his:(F.cls.find? (fun c=>c.flag==x)).isSome=is):goesB F x=(x==F.s0||(is&&d.kind==2)):=by
 unfold goesB findC
 rcases hq:F.cls.find? (fun c=>c.flag==x) with _ | c
 ·rw [hq] at his hd
  subst his hd
  simp [hq,noCl]
 rw [hq] at his hd
 subst his hd
 simp [hq,noCl]
def ChkP (w0:World) (L:List Nat) (i:Ids) (v:Vs) (E:Int) (S:Sx) (w:World) (e:Ending) (w':World):Prop :=
 Go2 L w L w'∧match checkE S.fl with
  | some l=>e=.panicked [flt l 118]
  | none=>e=.returned (.tuple #[])∧∃l,RMv w0 w' L i v E { S with line:=l } (S.fl.rls.map (·.line)) (takenF S.fl) (nzF S.fl+S.fl.cls.length) (clsIx S.fl.cls) S.fl.cls.length
theorem so_check (w0:World) (L:List Nat) (i:Ids) (v:Vs) (E:Int) (kh k:Nat) (S:Sx) (w:World) (hbd:Bd kh k S) (hm:RMv w0 w L i v E S (S.fl.rls.map (·.line)) (takenF S.fl) (nzF S.fl+S.fl.cls.length) (clsIx S.fl.cls) S.fl.cls.length) :
  Calls Tryz.prog 47 #[.pointer (some ⟨i.rb,0,none⟩)] w (ChkP w0 L i v E S w):=by
 obtain⟨rs,hrs1,hrs2,hrs3⟩:=hm.rls
 obtain⟨AR,cpR,hvR⟩:=own_slice hrs2.1
 have hlr:rs.length=S.fl.rls.length:=by rw [←hrs1];simp
 obtain⟨AN,cpN,hvN⟩:=own_slice hm.nxs.1
 rw [List.length_map] at hvN
 rw [hlr] at hvR
 have c0:=hm.r0
 have c12:=hm.f12
 rw [hvR] at c12
 have hcl3:S.fl.cls.length≤65536:=by have h1:=hbd.cls;omega
 obtain⟨n,hn⟩:∃n,S.fl.rls.length=n:=⟨_,rfl⟩
 have hrl3:n≤65536:=by have h1:=hbd.rls;omega
 rw [hn] at c12 hvR hvN
 have HM:=hid hm
 have HB:=hid hbd
 have HV:=hid hvR
 have HVN:=hid hvN
 have HN:=hid hn
 clear hm hbd hvR hrs1 hrs2 hrs3 hlr hvN hn
 go_enter Tryz.func47,Tryz.ntmps47
 go_wp2_with fail
 go_loopw [2,3,5,6,7,17] (fun _ _ _ _ _ x wr=>∃(m:Nat) (l:Int),m≤n∧x=.int .i64 m∧Hid (RMv w0 wr L i v E { S with line:=l } (S.fl.rls.map (·.line)) (takenF S.fl) (nzF S.fl+S.fl.cls.length) (clsIx S.fl.cls) S.fl.cls.length)∧Hid (Go2 L w L wr)∧Hid (okTo S.fl m)) (fun _ _ _ _ _ x _=>n - (intOf x).toNat)
 case atStart=>exact⟨0,S.line,Nat.zero_le _,rfl,HM,hid (Go2.refl _ _),hid (fun j _ hj=>absurd hj (Nat.not_lt_zero _))⟩
 case round =>
 obtain⟨m,l,hm,rfl,HMr,HGr,HOk⟩:=hrel
 by_cases hlt:m < n
 ·have hlt2:m < S.fl.rls.length:=by have:=HN.out;omega
  obtain⟨rs,hrs1,hrs2,hrs3⟩:=HMr.out.rls
  have hlr:rs.length=S.fl.rls.length:=by have h:=congrArg List.length hrs1;simpa using h
  have hmr:m < rs.length:=by omega
  have hr1:rs[m].1=S.fl.rls[m]:=by
   have h:rs.map (·.1)=S.fl.rls:=hrs1
   simp [←h]
  obtain⟨-,A,cap,hvA,-,hcells⟩:=Rd.of_own hrs2.1
  have hlr2:rs.length=n:=by rw [hlr,HN.out]
  rw [HV.out,hlr2] at hvA
  cases hvA
  obtain⟨g,o,rfl,hc2⟩:=hcells.resolve_left (by omega)
  obtain⟨q0,q1,q2,q3,q4,q5,q6⟩:=rls_at rs m hmr
  have d0:=hc2 _ _ q0
  have d1:=hc2 _ _ q1
  have d2:=hc2 _ _ q2
  have d3:=hc2 _ _ q3
  have d4:=hc2 _ _ q4
  have d5:=hc2 _ _ q5
  have d6:=hc2 _ _ q6
  rw [←Nat.add_assoc] at d1 d2 d3 d4 d5 d6
  have hfo:=hrs3 _ (List.getElem_mem hmr)
  obtain⟨nv,hnv⟩:∃u,rs[m].2=u:=⟨_,rfl⟩
  rw [hr1] at d0 d1 d2 d3 d4 d5 hfo
  rw [hnv] at d6 hfo
  clear q0 q1 q2 q3 q4 q5 q6 hc2 hcells hnv hr1 hmr hlr hlr2 hrs1 hrs2 hrs3
  obtain⟨-,A,cap,hvA,hcapN,hcells⟩:=HMr.out.line_nx
  rw [HVN.out] at hvA
  have hln:(S.fl.rls.map (·.line)).length=n:=by rw [List.length_map,HN.out]
  rw [hln] at hvA hcapN hcells
  cases hvA
  obtain⟨gN,oN,rfl,hcN⟩:=hcells.resolve_left (by omega)
  have dN:wr.cell? ⟨gN,oN+m,none⟩=some (.int .i64 S.fl.rls[m].line):=hcN m _ (by simp [hlt2])
  obtain⟨r,hr⟩:∃r,S.fl.rls[m]=r:=⟨_,rfl⟩
  have HR:Hid (S.fl.rls[m]=r):=hid hr
  rw [hr] at d0 d1 d2 d3 d4 d5 hfo dN
  clear hr hcN hcells hln
  have HFo:=hid hfo
  obtain⟨pn,cn,rfl,-⟩:=hfo
  have hrb:=(HMr.out.hl _ HMr.out.rbL).2
  have hfb:=(HMr.out.hl _ HMr.out.fbL).2
  have r2:=HMr.out.r2
  have r6:=HMr.out.r6
  rw [HVN.out] at r6
  have rz:=HMr.out.rz 2
  have hb1:Below (wr.setCell ⟨i.rb,2,none⟩ (.int .i64 r.line)).heap.size (wr.setCell ⟨i.rb,2,none⟩ (.int .i64 r.line)) ((wr.setCell ⟨i.rb,2,none⟩ (.int .i64 r.line)).alloc (.cells #[.int .i64 r.kind,.int .u16 r.flag,.bool r.cross,.string r.strip,.string r.add,.string r.cond,.slice pn r.next.length cn] 31)):=(Below.refl _ _).alloc (Nat.le_refl _) _
  have HM4:=hid ((HMr.out.setLine r.line).below hb1)
  have hg1:Go2 L wr L ((wr.setCell ⟨i.rb,2,none⟩ (.int .i64 r.line)).alloc (.cells #[.int .i64 r.kind,.int .u16 r.flag,.bool r.cross,.string r.strip,.string r.add,.string r.cond,.slice pn r.next.length cn] 31)):=(show Go2 L wr L (wr.setCell ⟨i.rb,2,none⟩ (.int .i64 r.line)) from⟨set_kept' HMr.out.rbL,fun x hx=>.inl hx⟩).trans (Go2.of_below hb1)
  have HG4:=hid (HGr.out.trans hg1)
  have HF4:=hid (HFo.out.keep hg1)
  clear hb1 hg1
  have hgN:gN < wr.heap.size:=block_lt_of_cell? _ _ dN
  have x6:((wr.setCell ⟨i.rb,2,none⟩ (.int .i64 r.line)).alloc (.cells #[.int .i64 r.kind,.int .u16 r.flag,.bool r.cross,.string r.strip,.string r.add,.string r.cond,.slice pn r.next.length cn] 31)).cell? ⟨wr.heap.size,6,none⟩=some (.slice pn r.next.length cn):=by
   have h:=heap_alloc_new (wr.setCell ⟨i.rb,2,none⟩ (.int .i64 r.line)) (.cells #[.int .i64 r.kind,.int .u16 r.flag,.bool r.cross,.string r.strip,.string r.add,.string r.cond,.slice pn r.next.length cn] 31)
   rw [set_size] at h
   rw [cell_of_heap h];rfl
  have HX6:=hid x6
  clear x6
  go_upto_region 3 with fail
  go_cut [] from 18 to 31 (fun W=>Hid (RMv w0 W L i v E { S with line:=r.line } (S.fl.rls.map (·.line)) (takenF S.fl) (nzF S.fl+S.fl.cls.length) (clsIx S.fl.cls) S.fl.cls.length)∧Hid (Go2 L w L W)∧Hid (FO W L (.slice pn r.next.length cn) r.next)∧W.cell? ⟨wr.heap.size,6,none⟩=some (.slice pn r.next.length cn))
  case first =>
   go_wp2_with fail
   all_goals go_meet
   all_goals exact⟨HM4,HG4,HF4,HX6.out⟩
  case rest =>
  obtain⟨HM5,HG5,HF5,x6⟩:=hcut
  have hnb:canon r.next=r.next∧∀x∈r.next,0≤x∧x≤65535:=by rw [←HR.out];exact HB.out.nexts _ (List.getElem_mem hlt2)
  have HNb:=hid hnb.2
  have hnl:=canon_len hnb.1 hnb.2
  clear d0 d1 d2 d3 d4 d5 d6 dN r2 r6 rz hrb hfb HFo hgN HM4 HG4 HF4 HX6 hnb
  go_wp2_with fail
  go_loopw [5,6,7,35] (fun _ _ _ x wz=>∃q:Nat,q≤r.next.length∧x=.int .i64 q∧Hid (Below wc.heap.size wc wz)∧Hid ((r.next.take q).all (goesB S.fl)=true)) (fun _ _ _ x _=>r.next.length - (intOf x).toNat)
  case atStart=>exact⟨0,Nat.zero_le _,rfl,hid (Below.refl _ _),hid rfl⟩
  case round =>
  obtain⟨q,hq,rfl,HBz,HTk⟩:=hrel
  by_cases hlt3:q < r.next.length
  ·obtain⟨x,hx⟩:∃x,r.next[q]=x:=⟨_,rfl⟩
   have hxb:=HNb.out _ (List.getElem_mem hlt3)
   rw [hx] at hxb
   obtain⟨p',c',hv',-,hcs⟩:=HF5.out.fs
   cases hv'
   obtain⟨bb,off,rfl,hcs2⟩:=hcs.resolve_left (by omega)
   have e5:=hcs2 q hlt3
   have hgx:r.next.getD q 0=x:=by rw [←hx];simp [List.getD,hlt3]
   rw [hgx] at e5
   have d5:=(HBz.out.cell (block_lt_of_cell? _ _ e5)).trans e5
   have hcl:=so_Class i.fb S.fl.cls x wr (HM5.out.clsF.later HBz.out) hxb hcl3
   have hgo:=goes_of S.fl x _ _ rfl rfl
   unfold clsP clsV at hcl
   obtain⟨d,hd⟩:∃d,(S.fl.cls.find? (fun c=>c.flag==x)).getD noCl=d:=⟨_,rfl⟩
   obtain⟨is,his⟩:∃b,(S.fl.cls.find? (fun c=>c.flag==x)).isSome=b:=⟨_,rfl⟩
   rw [hd,his] at hcl hgo
   have HCl:=hid hcl
   have HMz:=hid (HM5.out.below HBz.out)
   have z0:=HMz.out.r0
   have HTn:Hid (∀b,goesB S.fl x=b→(r.next.take (q+1)).all (goesB S.fl)=b):=hid (fun b hb=>by
    rw [List.take_succ_eq_append_getElem hlt3,List.all_append,HTk.out,hx];simp [hb])
   have HBad:Hid (goesB S.fl x=false→checkE S.fl=some r.line):=hid (fun hb=>by
    rw [←HR.out]
    refine HOk.out.bad hlt2 ?_
    rw [HR.out]
    rw [Bool.eq_false_iff]
    intro h
    rw [List.all_eq_true] at h
    have:=h x (by rw [←hx];exact List.getElem_mem hlt3)
    rw [hb] at this;cases this)
   clear hcl e5 hcs hcs2 hd his hx hgx
   by_cases hs0:x=S.fl.s0
   ·have hb0:(x==S.fl.s0)=true:=by rw [beq_iff_eq];exact hs0
    have HTn2:=hid (HTn.out true (by rw [hgo,hb0];rfl))
    clear hgo hs0 HBad
    go_wp2_with (first
     | (go_at_call 38;refine HCl.out.mono ?_;rintro e9 w6 ⟨rfl,hb6⟩;have hb7:=hb6.alloc hb6.size (.cells #[.int .u16 d.flag,.int .i64 d.kind,.bool d.cross,.int .i64 d.first,.int .i64 d.count] 99);have HM7:=hid (HMz.out.below hb7);have HB7:=hid (HBz.out.trans (hb7.mono HBz.out.size));have z7:=HM7.out.r0;have s7:=HM7.out.f3;clear hb6 hb7)
     | (go_at_call 46;refine (so_must i.rb r.line _ _ _ (by decide) HM7.out.r2).mono ?_;rintro e9 w9 ⟨⟨-,rfl⟩ | ⟨hx,-⟩,rfl⟩))
    go_roundw
    case rel=>exact⟨q+1,by omega,by go_num,HB7,HTn2⟩
    case measure=>simp [intOf];omega
   have hb0:(x==S.fl.s0)=false:=by rw [beq_eq_false_iff_ne];exact hs0
   rw [hb0,Bool.false_or] at hgo
   clear hs0
   cases is
   ·have HE:=hid (HBad.out hgo)
    clear hgo HBad HTn
    go_wp2_with (go_at_call 38;refine HCl.out.mono ?_;rintro e9 w6 ⟨rfl,hb6⟩;have hb7:=hb6.alloc hb6.size (.cells #[.int .u16 d.flag,.int .i64 d.kind,.bool d.cross,.int .i64 d.first,.int .i64 d.count] 99);have HM7:=hid (HMz.out.below hb7);have HB7:=hid (HBz.out.trans (hb7.mono HBz.out.size));have z7:=HM7.out.r0;have s7:=HM7.out.f3;clear hb6 hb7)
    refine (so_must i.rb r.line _ _ _ (by decide) HM7.out.r2).mono ?_
    rintro e9 w9 ⟨⟨hx,-⟩ | ⟨-,rfl⟩,rfl⟩
    ·exact absurd hx (by simp)
    refine⟨rfl,?_⟩
    unfold ChkP
    rw [HE.out]
    exact⟨HG5.out.trans (Go2.of_below HB7.out),rfl⟩
   rw [Bool.true_and] at hgo
   by_cases hk2:d.kind=2
   ·have ek:(d.kind==2)=true:=by rw [hk2];rfl
    have HTn2:=hid (HTn.out true (by rw [hgo,ek]))
    clear hgo HBad HTn hk2
    go_wp2_with (first
     | (go_at_call 38;refine HCl.out.mono ?_;rintro e9 w6 ⟨rfl,hb6⟩;have hb7:=hb6.alloc hb6.size (.cells #[.int .u16 d.flag,.int .i64 d.kind,.bool d.cross,.int .i64 d.first,.int .i64 d.count] 99);have HM7:=hid (HMz.out.below hb7);have HB7:=hid (HBz.out.trans (hb7.mono HBz.out.size));have z7:=HM7.out.r0;have s7:=HM7.out.f3;clear hb6 hb7)
     | (go_at_call 46;refine (so_must i.rb r.line _ _ _ (by decide) HM7.out.r2).mono ?_;rintro e9 w9 ⟨⟨-,rfl⟩ | ⟨hx,-⟩,rfl⟩))
    go_roundw
    case rel=>exact⟨q+1,by omega,by go_num,HB7,HTn2⟩
    case measure=>simp [intOf];omega
   have ek:(d.kind==2)=false:=by rw [beq_eq_false_iff_ne];exact hk2
   have HE:=hid (HBad.out (by rw [hgo,ek]))
   clear hgo HBad HTn hk2
   go_wp2_with (go_at_call 38;refine HCl.out.mono ?_;rintro e9 w6 ⟨rfl,hb6⟩;have hb7:=hb6.alloc hb6.size (.cells #[.int .u16 d.flag,.int .i64 d.kind,.bool d.cross,.int .i64 d.first,.int .i64 d.count] 99);have HM7:=hid (HMz.out.below hb7);have HB7:=hid (HBz.out.trans (hb7.mono HBz.out.size));have z7:=HM7.out.r0;have s7:=HM7.out.f3;clear hb6 hb7)
   refine (so_must i.rb r.line _ _ _ (by decide) HM7.out.r2).mono ?_
   rintro e9 w9 ⟨⟨hx,-⟩ | ⟨-,rfl⟩,rfl⟩
   ·exact absurd hx (by simp)
   refine⟨rfl,?_⟩
   unfold ChkP
   rw [HE.out]
   exact⟨HG5.out.trans (Go2.of_below HB7.out),rfl⟩
  obtain rfl:q=r.next.length:=by omega
  have HA:Hid (r.next.all (goesB S.fl)=true):=hid (by have:=HTk.out;rwa [List.take_of_length_le (Nat.le_refl _)] at this)
  go_wp2_with fail
  go_roundw
  case rel=>exact⟨m+1,_,by omega,by go_num,hid (HM5.out.below HBz.out),hid (HG5.out.trans (Go2.of_below HBz.out)),hid (HOk.out.step hlt2 (by rw [HR.out];exact HA.out))⟩
  case measure=>simp [intOf];omega
 obtain rfl:m=n:=by omega
 have HE:=hid (okTo.none_ (by rw [HN.out];exact HOk.out))
 go_wp2_with fail
 go_end0
 unfold ChkP
 rw [HE.out]
 exact⟨HGr.out,rfl,l,HMr.out⟩
def headE:Value→Option (DataW Unit×List MemPlace)
 | .agg ⟨[.int .i64 n,.func (.func k) ⟨[]⟩ ⟨[]⟩]⟩=>some (.agg [.lit (.int .i64 n),.lit (.int .i64 (k:Nat))],[])
 | .agg ⟨[.int .i64 n,.nilFunc]⟩=>some (.agg [.lit (.int .i64 n)],[])
 | _=>none
def hdF (n:Nat):Nat:=[75,76,77,78,78,78,78,78,79,80,81,82,82].getD n 0
def hdV (n:Nat):Value:=.agg #[.int .i64 (widthN n:Nat),.func (.func (hdF n)) #[] #[]]
def hdZ:Value:=.agg #[.int .i64 0,.nilFunc]
def hdD (n:Nat):DataW Unit:=.agg [.lit (.int .i64 (widthN n:Nat)),.lit (.int .i64 (hdF n:Nat))]
theorem headE_mk (n:Nat):headE (hdV n)=some (hdD n,[]):=rfl
theorem headE_z:headE hdZ=some (.agg [.lit (.int .i64 0)],[]):=rfl
theorem headE_inv {v:Value} {n:Nat} {ps:List MemPlace} (h:headE v=some (hdD n,ps)):v=hdV n:=by
 unfold headE hdD at h
 split at h
 ·rename_i a k
  simp at h
  obtain⟨⟨h1,h2⟩,-⟩:=h
  have h3:k=hdF n:=Int.ofNat.inj h2
  subst h3
  first | rfl | (subst h1;rfl)
 ·simp at h
 cases h
theorem headE_invZ {v:Value} {ps:List MemPlace} (h:headE v=some (.agg [.lit (.int .i64 0)],ps)):v=hdZ:=by
 unfold headE at h
 split at h
 ·simp at h
 ·simp at h
  obtain⟨h1,-⟩:=h
  subst h1
  rfl
 cases h
theorem keyN_inj {s:ByteArray} {m:Nat} (hm:m < 13):litS s=litS (keyS m)↔keyN s=m:=by
 rw [keyN_iff s m hm]
 constructor
 ·intro e
  injection e with e
  obtain⟨⟨a⟩⟩:=s
  obtain⟨⟨b⟩,hb⟩:∃b,keyS m=⟨b⟩:=⟨_,rfl⟩
  rw [hb] at e ⊢
  simp at e;rw [e]
 rintro rfl;rfl
theorem keyS_size {m:Nat} (hm:m < 13):(keyS m).size≤maxLen:=by
 have h:∀m,m < 13→(keyS m).size≤16:=by decide
 have:=h m hm
 unfold maxLen;omega
def HdM (w:World) (b m:Nat):Prop:=∃D:DataW Unit,w.ownsMap Tryz.prog 9 headE b m D∧∀s:ByteArray,Maps.has D (litS s)=decide (keyN s < m)∧∀z,D.atKey (litS s) z=if keyN s < m then hdD (keyN s) else z
theorem HdM.made (w:World):HdM (w.alloc (.map #[] 0)) w.heap.size 0:=⟨_,World.ownsMap_made _ _ _ _,fun s=>⟨rfl,fun z=>rfl⟩⟩
theorem HdM.keep {w w':World} {E:List Nat} {b n:Nat} (h:HdM w b n) (hk:Kept E w w') (hb:b∉E):HdM w' b n:=by
 obtain⟨D,⟨es,clock,hm,F,hs,hD⟩,h2⟩:=h
 exact⟨D,⟨es,clock,hk.at hm hb,F,hs,hD⟩,h2⟩
theorem HdM.store {w:World} {b m:Nat} (h:HdM w b m) (hm:m < 13):∃w',(Instr.mapUpdate 121 (.map (some b)) (.string (keyS m)) (hdV m)).run Tryz.prog w=.ok () w'∧HdM w' b (m+1)∧Kept [b] w w':=by
 obtain⟨D,hD,h2⟩:=h
 obtain⟨w',hrun,hD',hg⟩:=hD.update law_string Tryz.underlying121 (by unfold maxLen;omega) (keyOf_string_mk Tryz.underlying9 (s:=keyS m) (keyS_size hm)) (headE_mk m)
 refine⟨w',hrun,⟨_,hD',fun s=>?_⟩,turned_kept hg⟩
 by_cases hs:keyN s=m
 ·have e:=(keyN_inj hm).2 hs
  rw [e]
  refine⟨?_,fun z=>?_⟩
  ·rw [Maps.has_put_same hD.isMap (by trivial),eq_comm,decide_eq_true_iff];omega
  rw [Maps.atKey_put_same hD.isMap (by trivial),if_pos (by omega),hs]
 have e:litS s≠litS (keyS m):=fun e=>hs ((keyN_inj hm).1 e)
 refine⟨?_,fun z=>?_⟩
 ·rw [Maps.has_put_other e,(h2 s).1,decide_eq_decide];omega
 rw [Maps.atKey_put_other e,(h2 s).2 z]
 by_cases hl:keyN s < m
 ·rw [if_pos hl,if_pos (by omega)]
 rw [if_neg hl,if_neg (by omega)]
theorem HdM.look {w:World} {b:Nat} (h:HdM w b 13) (s:ByteArray) (hs:s.size≤maxLen) (hz:(zeroValue 126).run Tryz.prog w=.ok hdZ w) :
  (Instr.lookup 121 (.map (some b)) (.string s) true).run Tryz.prog w=.ok (.tuple #[if keyN s < 13 then hdV (keyN s) else hdZ,.bool (decide (keyN s < 13))]) w:=by
 obtain⟨D,hD,h2⟩:=h
 obtain⟨v,ps,hrun,hv⟩:=hD.look_ok law_string Tryz.underlying121 hz headE_z (keyOf_string_mk Tryz.underlying9 hs)
 rw [(h2 s).2] at hv
 have h1:Maps.has D (litS s)=decide (keyN s < 13):=(h2 s).1
 rw [hrun,h1]
 by_cases hl:keyN s < 13
 ·rw [if_pos hl] at hv ⊢
  rw [headE_inv hv]
 rw [if_neg hl] at hv ⊢
 rw [headE_invZ hv]
theorem zero_head (w:World):(zeroValue 126).run Tryz.prog w=.ok hdZ w:=by kernel_rfl
theorem so_headings (w:World):Calls Tryz.prog 44 #[] w fun e w'=>e=.returned (.map (some w.heap.size))∧HdM w' w.heap.size 13∧Below w.heap.size w w':=by
 obtain⟨w1,e1,h1,k1⟩:=(HdM.made w).store (m:=0) (by decide)
 obtain⟨w2,e2,h2,k2⟩:=(h1).store (m:=1) (by decide)
 obtain⟨w3,e3,h3,k3⟩:=(h2).store (m:=2) (by decide)
 obtain⟨w4,e4,h4,k4⟩:=(h3).store (m:=3) (by decide)
 obtain⟨w5,e5,h5,k5⟩:=(h4).store (m:=4) (by decide)
 obtain⟨w6,e6,h6,k6⟩:=(h5).store (m:=5) (by decide)
 obtain⟨w7,e7,h7,k7⟩:=(h6).store (m:=6) (by decide)
 obtain⟨w8,e8,h8,k8⟩:=(h7).store (m:=7) (by decide)
 obtain⟨w9,e9,h9,k9⟩:=(h8).store (m:=8) (by decide)
 obtain⟨w10,e10,h10,k10⟩:=(h9).store (m:=9) (by decide)
 obtain⟨w11,e11,h11,k11⟩:=(h10).store (m:=10) (by decide)
 obtain⟨w12,e12,h12,k12⟩:=(h11).store (m:=11) (by decide)
 obtain⟨w13,e13,h13,k13⟩:=(h12).store (m:=12) (by decide)
 have HK:=hid (((((((((((((k1).trans k2).trans k3).trans k4).trans k5).trans k6).trans k7).trans k8).trans k9).trans k10).trans k11).trans k12).trans k13)
 have H13:=hid h13
 clear k1 k2 k3 k4 k5 k6 k7 k8 k9 k10 k11 k12 k13 h1 h2 h3 h4 h5 h6 h7 h8 h9 h10 h11 h12 h13
 have e0:(Instr.makeMap 121 none).run Tryz.prog w=.ok (.map (some w.heap.size)) (w.alloc (.map #[] 0)):=run_makeMap _ _
 have d1:(Instr.mapUpdate 121 (.map (some w.heap.size)) (.string ⟨#[70,76,65,71]⟩) (.agg #[.int .i64 2,.func (.func 75) #[] #[]])).run Tryz.prog (w.alloc (.map #[] 0))=.ok () w1:=e1
 have d2:(Instr.mapUpdate 121 (.map (some w.heap.size)) (.string ⟨#[83,69,84]⟩) (.agg #[.int .i64 2,.func (.func 76) #[] #[]])).run Tryz.prog w1=.ok () w2:=e2
 have d3:(Instr.mapUpdate 121 (.map (some w.heap.size)) (.string ⟨#[84,82,89]⟩) (.agg #[.int .i64 2,.func (.func 77) #[] #[]])).run Tryz.prog w2=.ok () w3:=e3
 have d4:(Instr.mapUpdate 121 (.map (some w.heap.size)) (.string ⟨#[78,69,69,68,65,70,70,73,88]⟩) (.agg #[.int .i64 2,.func (.func 78) #[] #[]])).run Tryz.prog w3=.ok () w4:=e4
 have d5:(Instr.mapUpdate 121 (.map (some w.heap.size)) (.string ⟨#[70,79,82,66,73,68,68,69,78,87,79,82,68]⟩) (.agg #[.int .i64 2,.func (.func 78) #[] #[]])).run Tryz.prog w4=.ok () w5:=e5
 have d6:(Instr.mapUpdate 121 (.map (some w.heap.size)) (.string ⟨#[75,69,69,80,67,65,83,69]⟩) (.agg #[.int .i64 2,.func (.func 78) #[] #[]])).run Tryz.prog w5=.ok () w6:=e6
 have d7:(Instr.mapUpdate 121 (.map (some w.heap.size)) (.string ⟨#[67,79,77,80,79,85,78,68,70,76,65,71]⟩) (.agg #[.int .i64 2,.func (.func 78) #[] #[]])).run Tryz.prog w6=.ok () w7:=e7
 have d8:(Instr.mapUpdate 121 (.map (some w.heap.size)) (.string ⟨#[78,79,83,85,71,71,69,83,84]⟩) (.agg #[.int .i64 2,.func (.func 78) #[] #[]])).run Tryz.prog w7=.ok () w8:=e8
 have d9:(Instr.mapUpdate 121 (.map (some w.heap.size)) (.string ⟨#[67,79,77,80,79,85,78,68,77,73,78]⟩) (.agg #[.int .i64 2,.func (.func 79) #[] #[]])).run Tryz.prog w8=.ok () w9:=e9
 have d10:(Instr.mapUpdate 121 (.map (some w.heap.size)) (.string ⟨#[82,69,80]⟩) (.agg #[.int .i64 2,.func (.func 80) #[] #[]])).run Tryz.prog w9=.ok () w10:=e10
 have d11:(Instr.mapUpdate 121 (.map (some w.heap.size)) (.string ⟨#[65,70]⟩) (.agg #[.int .i64 2,.func (.func 81) #[] #[]])).run Tryz.prog w10=.ok () w11:=e11
 have d12:(Instr.mapUpdate 121 (.map (some w.heap.size)) (.string ⟨#[80,70,88]⟩) (.agg #[.int .i64 4,.func (.func 82) #[] #[]])).run Tryz.prog w11=.ok () w12:=e12
 have d13:(Instr.mapUpdate 121 (.map (some w.heap.size)) (.string ⟨#[83,70,88]⟩) (.agg #[.int .i64 4,.func (.func 82) #[] #[]])).run Tryz.prog w12=.ok () w13:=e13
 clear e1 e2 e3 e4 e5 e6 e7 e8 e9 e10 e11 e12 e13
 go_enter Tryz.func44,Tryz.ntmps44
 go_wp2_with fail
 go_ret
 refine⟨rfl,H13.out,?_⟩
 exact ((Below.refl _ _).alloc (Nat.le_refl _) _).trans (HK.out.below (by simp) (by intro x hx;simp at hx;omega))
theorem fault_info:(Tryz.prog.info? 60).map (·.zero)=some (some (.agg #[.int .i64 0,.int .i64 0,.int .i64 0])):=by kernel_rfl
theorem assert_flt (xT:TypeId) (v:Value) (w:World):(Instr.typeAssert (.iface 60 v) xT 60 true).run Tryz.prog w=.ok (.tuple #[v,.bool true]) w:=by
 simp [Instr.typeAssert,run_underlying Tryz.underlying60,go_sem,Result.andThen]
theorem assert_nilF (xT:TypeId) (w:World):(Instr.typeAssert .nilIface xT 60 true).run Tryz.prog w=.ok (.tuple #[.agg #[.int .i64 0,.int .i64 0,.int .i64 0],.bool false]) w:=by
 obtain⟨i,hi,hz⟩:=Option.map_eq_some_iff.1 fault_info
 simp [Instr.typeAssert,run_underlying Tryz.underlying60,go_sem,Result.andThen,typeInfo,zeroValue,hi,hz]
theorem heap_drew_at (w:World) (k:Nat):w.drew.heap[k]?=w.heap[k]?:=rfl
theorem catch_flt (fb eb:Nat) (x y0 y1 y2:Value) (line c:Int) (older:List PanicEntry) (w:World) (hb:w.heap[fb]?=some (.cells #[x] 57 (0,0))) (he:w.heap[eb]?=some (.cells #[y0,y1,y2] 60 (0,0))) (hne:fb≠eb) :
  CallsD Tryz.prog 43 #[.pointer (some ⟨fb,0,none⟩),.pointer (some ⟨eb,0,none⟩)] (.panicking (flt line c::older)) w fun e u' w' =>
   e=.returned (.tuple #[])∧u'=.panicking ({ v:=.iface 60 (.agg #[.int .i64 1,.int .i64 line,.int .i64 c]),recovered:=true }::older)∧Kept [fb,eb] w w' ∧
   w'.heap[fb]?=some (.cells #[.pointer none] 57 (0,0))∧w'.heap[eb]?=some (.cells #[.int .i64 1,.int .i64 line,.int .i64 c] 60 (0,0)):=by
 have b0:w.cell? ⟨fb,0,none⟩=some x:=by rw [cell_of_heap hb];rfl
 have bf:∀i,w.frozen? ⟨fb,i,none⟩=false:=frozen_of_heap hb
 have e0:w.cell? ⟨eb,0,none⟩=some y0:=by rw [cell_of_heap he];rfl
 have e1:w.cell? ⟨eb,1,none⟩=some y1:=by rw [cell_of_heap he];rfl
 have e2:w.cell? ⟨eb,2,none⟩=some y2:=by rw [cell_of_heap he];rfl
 have ef:∀i,w.frozen? ⟨eb,i,none⟩=false:=frozen_of_heap he
 have hne':=Ne.symm hne
 have hbl:=block_lt hb
 have hel:=block_lt he
 refine callsD_of_wpS Tryz.func43 rfl fun c₀ cs hu=>?_
 apply wpS_seq
 apply wpS_region
 simp [wpOpsS,go_sem,recoverD,hu,flt,assert_flt,Tryz.ntmps43,Exit.thenS]
 apply wpS_seq
 apply wpS_region
 simp [wpOpsS,go_sem,Exit.thenS]
 refine wpS_cond (t:=true) (by simp [Act.eval,Array.replicate]) ?_
 simp only [if_true]
 refine wpS_of_wp ?_
 simp only [Array.replicate,List.replicate,List.setIfInBounds_toArray,List.set_cons_zero,List.set_cons_succ,List.append_toArray]
 go_wp2_with fail
 go_region
 all_goals go_wp2_with fail
 all_goals
  refine⟨rfl,_,rfl,.tuple #[],by simp [results,Tryz.results43],rfl,rfl,?_,?_,?_⟩
  ·exact ((((((Kept.refl [fb,eb] w).set _ _ _ (.inl (by simp))).set _ _ _ (.inl (by simp))).set _ _ _ (.inl (by simp))).set _ _ _ (.inl (by simp))).alloc _).drew
  ·rw [heap_drew_at,Below.heap_alloc _ _ _ (by simp [World.setCell];omega)]
   rw [heap_setCell_other _ ⟨eb,2,none⟩ fb _ hne,heap_setCell_other _ ⟨eb,1,none⟩ fb _ hne,heap_setCell_other _ ⟨eb,0,none⟩ fb _ hne]
   exact heap_setCell_same w fb 0 _ _ _ hb
  rw [heap_drew_at,Below.heap_alloc _ _ _ (by simp [World.setCell];omega)]
  have h1:=heap_setCell_same _ eb 0 _ _ (Value.int .i64 1) ((heap_setCell_other w ⟨fb,0,none⟩ eb (.pointer none) hne').trans he)
  have h2:=heap_setCell_same _ eb 1 _ _ (Value.int .i64 line) h1
  exact heap_setCell_same _ eb 2 _ _ (Value.int .i64 c) h2
theorem catch_noF (fb eb:Nat) (w:World) :
  CallsD Tryz.prog 43 #[.pointer (some ⟨fb,0,none⟩),.pointer (some ⟨eb,0,none⟩)] .returning w fun e u' w'=>e=.returned (.tuple #[])∧u'=.returning∧Below w.heap.size w w':=by
 refine callsD_of_wpS Tryz.func43 rfl fun c₀ cs hu=>?_
 apply wpS_seq
 apply wpS_region
 simp [wpOpsS,go_sem,recoverD,hu,assert_nilF,Tryz.ntmps43,Exit.thenS]
 apply wpS_seq
 apply wpS_region
 simp [wpOpsS,go_sem,Exit.thenS]
 refine wpS_cond (t:=false) (by simp [Act.eval,Array.replicate]) ?_
 simp only [Bool.false_eq_true,if_false]
 refine wpS_of_wp (wp_skip ?_)
 cases c₀
 simp_all [bodyPostS,results,Tryz.results43]
 exact (Below.refl _ _).alloc (Nat.le_refl _) _
theorem fgo_each:∀(l:List UInt8) (c:Option (List UInt8)),∀f∈fgo l c,f.length≤l.length+(c.getD []).length
 | [],none,f,hf=>by simp [fgo] at hf
 | [],some d,f,hf=>by simp [fgo] at hf;subst hf;simp
 | b::l,none,f,hf=>by
   rw [fgo] at hf
   split at hf
   ·have:=fgo_each l none f hf;simp at this ⊢;omega
   ·have:=fgo_each l (some [b]) f hf;simp at this ⊢;omega
 | b::l,some d,f,hf=>by
   rw [fgo] at hf
   split at hf
   ·rcases List.mem_cons.1 hf with rfl | h
    ·simp
    ·have:=fgo_each l none f h;simp at this ⊢;omega
   ·have:=fgo_each l (some (d++[b])) f hf;simp at this ⊢;omega
theorem fields_each (s:ByteArray):∀f∈fieldsS s,f.size≤s.size:=by
 intro f hf
 unfold fieldsS at hf
 obtain⟨m,hm,rfl⟩:=List.mem_map.1 hf
 rw [mkS_size]
 have:=fgo_each _ none m hm
 rw [len_toList] at this
 simpa using this
theorem fields_cnt (s:ByteArray):(fieldsS s).length≤s.size:=by
 unfold fieldsS fieldsOf
 rw [List.length_map]
 have:=fgo_len s.data.toList none
 rw [len_toList] at this
 simpa using this
theorem rowOf_bd {n:Int} {l:ByteArray} (h:l.size≤65536):∀r∈rowOf n l,r.2≠[]∧r.2.length≤65536∧(∀f∈r.2,f.size≤65536)∧r.1=n:=by
 intro r hr
 unfold rowOf at hr
 split at hr
 ·cases hr
 rename_i hne
 simp at hr
 subst hr
 have hs:(keptS (fieldsS l)).Sublist (fieldsS l):=List.takeWhile_sublist _
 exact⟨hne,Nat.le_trans hs.length_le (Nat.le_trans (fields_cnt l) h),fun f hf=>Nat.le_trans (fields_each l f (hs.subset hf)) h,rfl⟩
theorem numbered_at:∀(n:Nat) (L:List (List UInt8)),∀x∈numbered n L,(n:Int)≤x.1∧x.1 < (n:Int)+L.length
 | _,[],x,hx=>by cases hx
 | n,l::L,x,hx=>by
   rcases List.mem_cons.1 hx with rfl | h
   ·rw [List.length_cons];dsimp only;omega
   ·have:=numbered_at (n+1) L x h
    rw [List.length_cons];omega
theorem each_no (l:List UInt8):∀x∈eachOf l,0≤x.1∧x.1≤65536:=by
 intro x hx
 have hl:=eachOf_len l
 unfold eachOf at hx hl
 split at hx
 ·cases hx
 rename_i h
 rw [if_neg h,numbered_len] at hl
 have:=numbered_at 1 _ x hx
 omega
theorem rows_bd (l:List UInt8):∀r∈rowsOf (eachOf l),r.2≠[]∧r.2.length≤65536∧(∀f∈r.2,f.size≤65536)∧0≤r.1∧r.1≤65536:=by
 intro r hr
 unfold rowsOf at hr
 obtain⟨x,hx,hr⟩:=List.mem_flatMap.1 hr
 obtain⟨h1,h2,h3,h4⟩:=rowOf_bd (clamp_le x.2) r hr
 have:=each_no l x hx
 exact⟨h1,h2,h3,by rw [h4];exact this.1,by rw [h4];exact this.2⟩
theorem rows_le (l:List UInt8):(rowsOf (eachOf l)).length≤65536:=Nat.le_trans (rowsOf_len _) (eachOf_len l)
theorem Bd.start (l:List UInt8):Bd 0 0 ⟨fl0,rowsOf (eachOf l),[],0⟩:=by
 have h:=rows_le l
 refine⟨rows_bd l,?_,?_,?_,?_,?_,?_,?_,?_,?_,?_,?_,?_⟩
 ·show 0+(rowsOf (eachOf l)).length+0≤65536;omega
 ·intro h hh;cases hh
 ·show 0+(rowsOf (eachOf l)).length+0≤65536;omega
 ·show 0+(rowsOf (eachOf l)).length+0≤65536;omega
 ·show 0+(rowsOf (eachOf l)).length+0≤65536;omega
 ·show 0+(rowsOf (eachOf l)).length+0≤65536;omega
 ·intro c hc;cases hc
 ·intro c hc;cases hc
 ·intro c hc;cases hc
 ·exact⟨show (1:Int)≤1 by decide,show (1:Int)≤3 by decide⟩
 ·intro n
  have:spAt fl0 n=0:=by unfold spAt fl0;split<;>rfl
  rw [this];decide
 exact⟨show (0:Int)≤0 by decide,show (0:Int)≤65537 by decide⟩
theorem CntS.made (w:World):CntS (w.alloc (.map #[] 0)) w.heap.size 0 (fun _=>0):=⟨_,World.ownsMap_made _ _ _ _,fun s=>rfl⟩
theorem CntF.made (w:World):CntF (w.alloc (.map #[] 0)) w.heap.size 0 (fun _=>0):=⟨_,World.ownsMap_made _ _ _ _,fun s=>rfl⟩
theorem PlF.made (w:World):PlF (w.alloc (.map #[] 0)) w.heap.size 0 (fun _=>none):=⟨_,World.ownsMap_made _ _ _ _,fun s=>⟨rfl,rfl⟩⟩
theorem taken0 {F:Fl} (h:F.s0=0∧F.s1=0∧F.s2=0∧F.s3=0∧F.s4=0∧F.cls=[]):takenF F=fun _=>0:=by
 funext t
 obtain⟨h0,h1,h2,h3,h4,h5⟩:=h
 unfold takenF
 split
 ·rfl
 rename_i ht
 have e:((0:Int)==t)=false:=by rw [beq_eq_false_iff_ne];exact Ne.symm ht
 unfold definedB findC
 rw [h0,h1,h2,h3,h4,h5,e]
 rfl
def flZ:Fl:=⟨0,⟨#[]⟩,⟨#[]⟩,0,0,0,0,0,0,[],[],[],[]⟩
def ids0 (n:Nat):Ids:=⟨n+4,n+1,n,n+2,n+3⟩
def vs0 (rv:Value):Vs:=⟨rv,.slice none 0 0,.slice none 0 0,.slice none 0 0,.slice none 0 0,.slice none 0 0⟩
def own0 (n:Nat):List Nat:=[n,n+1,n+2,n+3,n+4]
def worldR (w:World) (rv:Value) (E:Int):World :=
 ((((w.alloc (.map #[] 0)).alloc (.cells #[.int .i64 0,.string ⟨#[]⟩,.string ⟨#[]⟩,.int .u16 0,.int .u16 0,.int .u16 0,.int .u16 0,.int .u16 0,.int .i64 0,.slice none 0 0,.slice none 0 0,.slice none 0 0,.slice none 0 0,.map (some w.heap.size)] 116)).alloc (.map #[] 0)).alloc (.map #[] 0)).alloc
   (.cells #[.pointer (some ⟨w.heap.size+1,0,none⟩),rv,.int .i64 0,.int .i64 E,.map (some (w.heap.size+1+1)),.map (some (w.heap.size+1+1+1)),.slice none 0 0] 119)
theorem RMv.start (w:World) (rv:Value) (E:Int) (rows:List Row) (hr:RowsM w rv rows):RMv w (worldR w rv E) (own0 w.heap.size) (ids0 w.heap.size) (vs0 rv) E ⟨flZ,rows,[],0⟩ [] (fun _=>0) 0 (fun _=>none) 0:=by
 unfold worldR
 obtain⟨w1,hw1⟩:∃W,w.alloc (.map #[] 0)=W:=⟨_,rfl⟩
 have s1:w1.heap.size=w.heap.size+1:=by rw [←hw1];simp
 obtain⟨w2,hw2⟩:∃W,w1.alloc (.cells #[.int .i64 0,.string ⟨#[]⟩,.string ⟨#[]⟩,.int .u16 0,.int .u16 0,.int .u16 0,.int .u16 0,.int .u16 0,.int .i64 0,.slice none 0 0,.slice none 0 0,.slice none 0 0,.slice none 0 0,.map (some w.heap.size)] 116)=W:=⟨_,rfl⟩
 have s2:w2.heap.size=w.heap.size+1+1:=by rw [←hw2];simp [s1]
 obtain⟨w3,hw3⟩:∃W,w2.alloc (.map #[] 0)=W:=⟨_,rfl⟩
 have s3:w3.heap.size=w.heap.size+1+1+1:=by rw [←hw3];simp [s2]
 obtain⟨w4,hw4⟩:∃W,w3.alloc (.map #[] 0)=W:=⟨_,rfl⟩
 have s4:w4.heap.size=w.heap.size+1+1+1+1:=by rw [←hw4];simp [s3]
 obtain⟨w5,hw5⟩:∃W,w4.alloc (.cells #[.pointer (some ⟨w.heap.size+1,0,none⟩),rv,.int .i64 0,.int .i64 E,.map (some (w.heap.size+1+1)),.map (some (w.heap.size+1+1+1)),.slice none 0 0] 119)=W:=⟨_,rfl⟩
 have s5:w5.heap.size=w.heap.size+1+1+1+1+1:=by rw [←hw5];simp [s4]
 rw [hw1,hw2,hw3,hw4,hw5]
 have b1:Below w.heap.size w w1:=by rw [←hw1];exact (Below.refl _ _).alloc (Nat.le_refl _) _
 have b2:Below w1.heap.size w1 w2:=by rw [←hw2];exact (Below.refl _ _).alloc (Nat.le_refl _) _
 have b3:Below w2.heap.size w2 w3:=by rw [←hw3];exact (Below.refl _ _).alloc (Nat.le_refl _) _
 have b4:Below w3.heap.size w3 w4:=by rw [←hw4];exact (Below.refl _ _).alloc (Nat.le_refl _) _
 have b5:Below w4.heap.size w4 w5:=by rw [←hw5];exact (Below.refl _ _).alloc (Nat.le_refl _) _
 have b45:Below w3.heap.size w3 w5:=b4.trans (b5.mono (by omega))
 have b35:Below w2.heap.size w2 w5:=b3.trans (b45.mono (by omega))
 have b25:Below w1.heap.size w1 w5:=b2.trans (b35.mono (by omega))
 have hfile:w5.heap[w.heap.size+1]?=some (.cells #[.int .i64 0,.string ⟨#[]⟩,.string ⟨#[]⟩,.int .u16 0,.int .u16 0,.int .u16 0,.int .u16 0,.int .u16 0,.int .i64 0,.slice none 0 0,.slice none 0 0,.slice none 0 0,.slice none 0 0,.map (some w.heap.size)] 116 (0,0)):=by
  rw [b35.block _ (by omega),←hw2,←s1];exact heap_alloc_new w1 _
 have hrdr:w5.heap[w.heap.size+4]?=some (.cells #[.pointer (some ⟨w.heap.size+1,0,none⟩),rv,.int .i64 0,.int .i64 E,.map (some (w.heap.size+1+1)),.map (some (w.heap.size+1+1+1)),.slice none 0 0] 119 (0,0)):=by
  rw [←hw5,show w.heap.size+4=w4.heap.size by omega];exact heap_alloc_new w4 _
 have hm1:PlF w5 w.heap.size 0 (fun _=>none):=(show PlF w1 w.heap.size 0 (fun _=>none) by rw [←hw1];exact PlF.made w).below b25
 have hm2:CntS w5 (w.heap.size+2) 0 (fun _=>0):=(show CntS w3 (w.heap.size+2) 0 (fun _=>0) by rw [←hw3,show w.heap.size+2=w2.heap.size by omega];exact CntS.made w2).keep (E:=[]) (Kept.of_below b45) (by simp)
 have hm3:CntF w5 (w.heap.size+3) 0 (fun _=>0):=(show CntF w4 (w.heap.size+3) 0 (fun _=>0) by rw [←hw4,show w.heap.size+3=w3.heap.size by omega];exact CntF.made w3).keep (E:=[]) (Kept.of_below b5) (by simp)
 refine⟨b1.trans (b25.mono (by omega)),?_,by simp [own0,ids0],by simp [own0,ids0],by simp [own0,ids0],by simp [own0,ids0],by simp [own0,ids0],?_,hrdr,hfile,hr,hm2,hm3,hm1,OwnL.nil_ _ _ _ _,⟨[],OwnL.nil_ _ _ _ _,rfl,fun k u a hu=>by simp at hu⟩,OwnL.nil_ _ _ _ _,⟨[],rfl,OwnL.nil_ _ _ _ _,fun r hr=>by cases hr⟩,OwnL.nil_ _ _ _ _⟩
 ·intro x hx;simp [own0] at hx;omega
 simp only [ids0];omega
theorem RM.start {w W:World} {rv:Value} {E:Int} (l:List UInt8) (h:RMv w W (own0 w.heap.size) (ids0 w.heap.size) (vs0 rv) E ⟨fl0,rowsOf (eachOf l),[],0⟩ [] (fun _=>0) 0 (fun _=>none) 0):RM w W (own0 w.heap.size) (ids0 w.heap.size) E 0 0 ⟨fl0,rowsOf (eachOf l),[],0⟩:=by
 refine⟨Bd.start l,vs0 rv,?_⟩
 show RMv w W _ _ _ E _ [] (takenF fl0) 0 (clsIx []) 0
 rw [taken0 ⟨rfl,rfl,rfl,rfl,rfl,rfl⟩]
 exact h
end Go.Proofs.YtfkblpjfknfgbaaGreatDoor
