/-
 Parts of the proof: AL2Z, AR14, AL3.
-/
import Derived.BigQuiet
import Derived.Test.YtkdajhmlhjkcdaaGreatDoorRows
import Derived.Test.YtkdajhmlhjkcdaaGreatDoorM10
import Derived.Test.YtkdajhmlhjkcdaaGreatDoorM13
set_option linter.unusedVariables false
set_option linter.unusedSimpArgs false
namespace Go.Proofs.YtkdajhmlhjkcdaaGreatDoor
open Go.RowKit Go.Maps
def InB (lo hi : Nat) (v : Value) : Prop:=∀ g o n c,v = .slice (some ⟨g,o,none⟩) n c → n ≠ 0 → lo ≤ g ∧ g < hi
theorem InB.mono {lo hi hi' : Nat} {v : Value} (h : InB lo hi v) (hh : hi ≤ hi') : InB lo hi' v:=fun g o n c e hn=>⟨(h g o n c e hn).1,Nat.lt_of_lt_of_le (h g o n c e hn).2 hh⟩
theorem own_inB {B e size n : Nat} {W : World} {v : Value} {xs : List Value} (h : W.ownsRow B e size v n xs) : InB B W.heap.size v:=by
 rintro g o n' c rfl hn
 rcases h.2 with ⟨hv,_⟩ | ⟨g',cap,cur,hv,h1,h2,_⟩
 ·cases hv
 cases hv
 exact ⟨h1,block_lt h2⟩
theorem FN.inB {B : Nat} {W : World} {v : Value} {zs : List Int} (h : FN B W v zs) : InB B W.heap.size v:=by
 rintro g o n c rfl hn
 obtain ⟨p,c',hv,-,h2⟩:=h
 cases hv
 rcases h2 with h2 | ⟨b,off,hp,h3,h4⟩
 ·exact absurd h2 hn
 cases hp
 exact ⟨h3,World.block_lt_of_cell? _ _ (h4 0 (by simp;omega)).1⟩
def AffZ (B : Nat) (w : World) (F : Fl) (a : AV) : Prop:=∃ (B1 B2 B3 B4 : Nat) (us : List Value) (rs : List (Rl × Value)),(B ≤ B1 ∧ B1 ≤ B2 ∧ B2 ≤ B3 ∧ B3 ≤ B4 ∧ B4 ≤ w.heap.size) ∧
 (InB B B1 a.reps ∧ InB B B1 a.cls ∧ InB B1 B2 a.als ∧ (∀ u ∈ us,InB B2 B3 u) ∧ InB B3 B4 a.rls ∧ ∀ r ∈ rs,InB B4 w.heap.size r.2) ∧
 w.ownsRow B 72 2 a.reps F.reps.length (repCells F.reps) ∧
 (w.ownsRow B 44 1 a.als F.als.length us ∧ us.length = F.als.length ∧ ∀ (k : Nat) u b,us[k]? = some u → F.als[k]? = some b → FN B w u b) ∧
 w.ownsRow B 48 5 a.cls F.cls.length (clsCells F.cls) ∧
 rs.map (·.1) = F.rls ∧ w.ownsRow B 74 7 a.rls rs.length (rlsCells rs) ∧ ∀ r ∈ rs,FN B w r.2 r.1.next
theorem AffZ.n {B : Nat} {w : World} {F : Fl} {a : AV} (h : AffZ B w F a) : AffN B w F a:=by
 obtain ⟨B1,B2,B3,B4,us,rs,-,-,h1,h2,h3,h4,h5,h6⟩:=h
 exact ⟨h1,⟨us,h2⟩,h3,rs,h4,h5,h6⟩
theorem AffZ.kept {B : Nat} {X : List Nat} {W W' : World} {F : Fl} {a : AV} (h : AffZ B W F a) (hk : Kept X W W') (hX : ∀ x ∈ X,x < B) : AffZ B W' F a:=by
 obtain ⟨B1,B2,B3,B4,us,rs,⟨o1,o2,o3,o4,o5⟩,⟨i1,i2,i3,i4,i5,i6⟩,h1,⟨h2,h3,h4⟩,h5,h6,h7,h8⟩:=h
 exact ⟨B1,B2,B3,B4,us,rs,⟨o1,o2,o3,o4,Nat.le_trans o5 hk.size⟩,⟨i1,i2,i3,i4,i5,fun r hr=>(i6 r hr).mono hk.size⟩,own_kept h1 hk hX,⟨own_kept h2 hk hX,h3,fun k u b hu hb=>(h4 k u b hu hb).kept hk hX⟩,own_kept h5 hk hX,h6,own_kept h7 hk hX,fun r hr=>(h8 r hr).kept hk hX⟩
theorem InB.lower {lo lo' hi : Nat} {v : Value} (h : InB lo hi v) (hh : lo' ≤ lo) : InB lo' hi v:=fun g o n c e hn=>⟨Nat.le_trans hh (h g o n c e hn).1,(h g o n c e hn).2⟩
theorem AffZ.mono {B B' : Nat} {W : World} {F : Fl} {a : AV} (h : AffZ B W F a) (hB : B' ≤ B) : AffZ B' W F a:=by
 obtain ⟨B1,B2,B3,B4,us,rs,⟨o1,o2,o3,o4,o5⟩,⟨i1,i2,i3,i4,i5,i6⟩,h1,⟨h2,h3,h4⟩,h5,h6,h7,h8⟩:=h
 exact ⟨B1,B2,B3,B4,us,rs,⟨Nat.le_trans hB o1,o2,o3,o4,o5⟩,⟨i1.lower hB,i2.lower hB,i3,i4,i5,i6⟩,own_mono h1 hB,⟨own_mono h2 hB,h3,fun k u b hu hb=>(h4 k u b hu hb).mono hB⟩,own_mono h5 hB,h6,own_mono h7 hB,fun r hr=>(h8 r hr).mono hB⟩
set_option maxHeartbeats 8000000 in
set_option maxRecDepth 100000 in
theorem so_AffixesZ (fb : Nat) (F : Fl) (w : World) (h : FileAt w fb F) (hok : FlOk F) :
  Calls Tryz.prog 16 #[.pointer (some ⟨fb,0,none⟩)] w fun e w'=>∃ a,e = .returned (affV F a) ∧ AffZ w.heap.size w' F a ∧ Below w.heap.size w w':=by
 obtain ⟨i,v,n,h0,h1,-,h3,⟨us,h4,h5,h6⟩,h7,rs,h8,h9,h10⟩:=h.mem
 have c0 : w.cell? ⟨fb,0,none⟩ = some (.int .i64 F.kind):=by rw [Lib.cell_of_heap h1];rfl
 have c1 : w.cell? ⟨fb,1,none⟩ = some (.string F.charset):=by rw [Lib.cell_of_heap h1];rfl
 have c2 : w.cell? ⟨fb,2,none⟩ = some (.string F.tryT):=by rw [Lib.cell_of_heap h1];rfl
 have c3 : w.cell? ⟨fb,3,none⟩ = some (.int .u16 F.s0):=by rw [Lib.cell_of_heap h1];rfl
 have c4 : w.cell? ⟨fb,4,none⟩ = some (.int .u16 F.s1):=by rw [Lib.cell_of_heap h1];rfl
 have c5 : w.cell? ⟨fb,5,none⟩ = some (.int .u16 F.s2):=by rw [Lib.cell_of_heap h1];rfl
 have c6 : w.cell? ⟨fb,6,none⟩ = some (.int .u16 F.s3):=by rw [Lib.cell_of_heap h1];rfl
 have c7 : w.cell? ⟨fb,7,none⟩ = some (.int .u16 F.s4):=by rw [Lib.cell_of_heap h1];rfl
 have c8 : w.cell? ⟨fb,8,none⟩ = some (.int .i64 F.least):=by rw [Lib.cell_of_heap h1];rfl
 have c9 : w.cell? ⟨fb,9,none⟩ = some v.reps:=by rw [Lib.cell_of_heap h1];rfl
 have c10 : w.cell? ⟨fb,10,none⟩ = some v.als:=by rw [Lib.cell_of_heap h1];rfl
 have c11 : w.cell? ⟨fb,11,none⟩ = some v.cls:=by rw [Lib.cell_of_heap h1];rfl
 have c12 : w.cell? ⟨fb,12,none⟩ = some v.rls:=by rw [Lib.cell_of_heap h1];rfl
 have hfb:=block_lt h1
 have HRp:=Lib.hid h3
 have HCl:=Lib.hid h7
 have HAl:=Lib.hid (⟨h4,h5,h6⟩ : _ ∧ _ ∧ _)
 have HRl:=Lib.hid (⟨h8,h9,h10⟩ : _ ∧ _ ∧ _)
 have HOk:=Lib.hid hok
 obtain ⟨vr,va,vc,vl⟩:=v
 dsimp only at c9 c10 c11 c12 HRp HCl HAl HRl
 obtain ⟨-,Ar,kr,rfl,-,-⟩:=h3
 obtain ⟨-,Aa,ka,rfl,-,-⟩:=h4
 obtain ⟨-,Ac,kc,rfl,-,-⟩:=h7
 obtain ⟨-,Al,kl,rfl,-,-⟩:=h9
 clear h h0 h1 h5 h6 h8 h10 hok
 go_enter Tryz.func16,Tryz.ntmps16
 go_upto_region 3 with fail
 go_cut [3] from 10 to 13 (fun p W=>p = .pointer (some ⟨w.heap.size + 1,0,none⟩) ∧ Hid (Stg w W F ⟨.slice Ar F.reps.length kr,.slice Aa F.als.length ka,.slice Ac F.cls.length kc,.slice Al rs.length kl⟩))
 case first =>
  go_wp2_with fail
  all_goals go_meet
  all_goals exact ⟨rfl,Lib.hid (Stg.start w F ⟨.slice Ar F.reps.length kr,.slice Aa F.als.length ka,.slice Ac F.cls.length kc,.slice Al rs.length kl⟩)⟩
 case rest =>
 obtain ⟨rfl,HS0⟩:=hcut
 clear c0 c1 c2 c3 c4 c5 c6 c7 c8 c9 c10 c11 c12 hfb
 have HQ1 : Hid (∀ W,Below w.heap.size w W → Calls Tryz.prog 47 #[.slice Ar F.reps.length kr] W fun e w'=>∃ v',e = .returned v' ∧ Own W w' 72 2 v' F.reps.length (repCells F.reps)):=Lib.hid (fun W hb=>so_CloneRep _ _ _ W (HRp.out.keep hb) (oneRep _) HOk.out.reps)
 have HQ2 : Hid (∀ W,Below w.heap.size w W → Calls Tryz.prog 48 #[.slice Ac F.cls.length kc] W fun e w'=>∃ v',e = .returned v' ∧ Own W w' 48 5 v' F.cls.length (clsCells F.cls)):=Lib.hid (fun W hb=>so_CloneCls _ _ _ W (HCl.out.keep hb) (oneCls _) HOk.out.cls)
 have HQ3 : Hid (∀ W,Below w.heap.size w W → Calls Tryz.prog 49 #[.slice Aa F.als.length ka] W fun e w'=>∃ v',e = .returned v' ∧ Own W w' 44 1 v' F.als.length us):=Lib.hid (fun W hb=>so_CloneAls _ _ _ W (HAl.out.1.keep hb) (oneAls HAl.out.2.1 HAl.out.2.2) HOk.out.als)
 have hrn : rs.length = F.rls.length:=by rw [← HRl.out.1];simp
 have HQ4 : Hid (∀ W,Below w.heap.size w W → Calls Tryz.prog 51 #[.slice Al rs.length kl] W fun e w'=>∃ v',e = .returned v' ∧ Own W w' 74 7 v' rs.length (rlsCells rs)):=Lib.hid (fun W hb=>so_CloneRls _ _ _ W (HRl.out.2.1.keep hb) (oneRls rs HRl.out.2.2) (by rw [hrn];exact HOk.out.rls))
 have HNr:=Lib.hid hrn
 clear hrn
 obtain ⟨w2,hw2⟩ : ∃ W : World,W = wc:=⟨_,rfl⟩
 rw [← hw2] at HS0 ⊢
 clear hw2 wc
 go_upto_region 4 with fail
 go_cut [] from 14 to 18 (fun W=>∃ A k,Hid (Stg w W F ⟨.slice A F.reps.length k,.slice Aa F.als.length ka,.slice Ac F.cls.length kc,.slice Al rs.length kl⟩) ∧ Hid (W.ownsRow (w.heap.size + 2) 72 2 (.slice A F.reps.length k) F.reps.length (repCells F.reps)))
 case first =>
  have d9 : w2.cell? ⟨w.heap.size + 1,9,none⟩ = some (.slice Ar F.reps.length kr):=HS0.out.oc 9
  go_wp2_with (go_at_call 47;refine (HQ1.out _ HS0.out.base).mono ?_;rintro e w3 ⟨v3,rfl,ho⟩;obtain ⟨A3,k3,rfl⟩:=own_slice ho.own;have HO3:=Lib.hid ho;have HS3:=Lib.hid (HS0.out.below ho.below);have e9 : w3.cell? ⟨w.heap.size + 1,9,none⟩ = some (.slice Ar F.reps.length kr):=HS3.out.oc 9;have z9:=HS3.out.oz 9;clear ho)
  all_goals go_meet
  all_goals exact ⟨A3,k3,Lib.hid (HS3.out.setOut 9 _ (by rfl)),Lib.hid (own_kept (own_mono HO3.out.own HS0.out.size) (set_kept _ _ _ _) (by simp))⟩
 case rest =>
 obtain ⟨A1,k1,HSA,HRA⟩:=hcut
 obtain ⟨wA,hwA⟩ : ∃ W : World,W = wc:=⟨_,rfl⟩
 rw [← hwA] at HSA HRA ⊢
 clear hwA wc HS0 HQ1
 go_upto_region 5 with fail
 go_cut [] from 18 to 21 (fun W=>∃ A k,Hid (Stg w W F ⟨.slice A1 F.reps.length k1,.slice Aa F.als.length ka,.slice A F.cls.length k,.slice Al rs.length kl⟩) ∧ Hid (W.ownsRow (w.heap.size + 2) 72 2 (.slice A1 F.reps.length k1) F.reps.length (repCells F.reps)) ∧ Hid (W.ownsRow (w.heap.size + 2) 48 5 (.slice A F.cls.length k) F.cls.length (clsCells F.cls)))
 case first =>
  have d11 : wA.cell? ⟨w.heap.size + 1,11,none⟩ = some (.slice Ac F.cls.length kc):=HSA.out.oc 11
  go_wp2_with (go_at_call 48;refine (HQ2.out _ HSA.out.base).mono ?_;rintro e w3 ⟨v3,rfl,ho⟩;obtain ⟨A3,k3,rfl⟩:=own_slice ho.own;have HO3:=Lib.hid ho;have HS3:=Lib.hid (HSA.out.below ho.below);have e11 : w3.cell? ⟨w.heap.size + 1,11,none⟩ = some (.slice Ac F.cls.length kc):=HS3.out.oc 11;have z11:=HS3.out.oz 11;clear ho)
  all_goals go_meet
  all_goals exact ⟨A3,k3,Lib.hid (HS3.out.setOut 11 _ (by rfl)),Lib.hid (own_kept (own_below HRA.out HO3.out.below) (set_kept _ _ _ _) (by simp)),Lib.hid (own_kept (own_mono HO3.out.own HSA.out.size) (set_kept _ _ _ _) (by simp))⟩
 case rest =>
 obtain ⟨A2,k2,HSB,HRB,HCB⟩:=hcut
 obtain ⟨wB,hwB⟩ : ∃ W : World,W = wc:=⟨_,rfl⟩
 rw [← hwB] at HSB HRB HCB ⊢
 clear hwB wc HSA HRA HQ2
 go_upto_region 6 with fail
 go_cut [] from 22 to 25 (fun W=>∃ A k,Hid (Stg w W F ⟨.slice A1 F.reps.length k1,.slice A F.als.length k,.slice A2 F.cls.length k2,.slice Al rs.length kl⟩) ∧ Hid (Kept [w.heap.size + 1] wB W) ∧ Hid (W.ownsRow wB.heap.size 44 1 (.slice A F.als.length k) F.als.length us))
 case first =>
  have d10 : wB.cell? ⟨w.heap.size + 1,10,none⟩ = some (.slice Aa F.als.length ka):=HSB.out.oc 10
  go_wp2_with (go_at_call 49;refine (HQ3.out _ HSB.out.base).mono ?_;rintro e w3 ⟨v3,rfl,ho⟩;obtain ⟨A3,k3,rfl⟩:=own_slice ho.own;have HO3:=Lib.hid ho;have HS3:=Lib.hid (HSB.out.below ho.below);have e10 : w3.cell? ⟨w.heap.size + 1,10,none⟩ = some (.slice Aa F.als.length ka):=HS3.out.oc 10;have z10:=HS3.out.oz 10;clear ho)
  all_goals go_meet
  all_goals exact ⟨A3,k3,Lib.hid (HS3.out.setOut 10 _ (by rfl)),Lib.hid ((Kept.of_below HO3.out.below).set _ _ _ (.inl (by simp))),Lib.hid (own_kept HO3.out.own (set_kept _ _ _ _) (by have:=HSB.out.size;simp;omega))⟩
 case rest =>
 obtain ⟨A3,k3,HSC,HKC,HOC⟩:=hcut
 obtain ⟨wC,hwC⟩ : ∃ W : World,W = wc:=⟨_,rfl⟩
 rw [← hwC] at HSC HKC HOC ⊢
 clear hwC wc HQ3
 have HY1 : Hid (InB (w.heap.size + 2) wB.heap.size (.slice A1 F.reps.length k1) ∧ InB (w.heap.size + 2) wB.heap.size (.slice A2 F.cls.length k2) ∧ InB wB.heap.size wC.heap.size (.slice A3 F.als.length k3) ∧ w.heap.size + 2 ≤ wB.heap.size ∧ wB.heap.size ≤ wC.heap.size):=Lib.hid ⟨own_inB HRB.out,own_inB HCB.out,own_inB HOC.out,HSB.out.size,HKC.out.size⟩
 have d10 : wC.cell? ⟨w.heap.size + 1,10,none⟩ = some (.slice A3 F.als.length k3):=HSC.out.oc 10
 have hbB:=HSB.out.size
 have hnA:=HOk.out.als
 have HG : Hid (AlsM w wC.heap.size wC us F.als 0):=Lib.hid ⟨HAl.out.2.1,fun j u b hu hb=>⟨fun h=>absurd h (Nat.not_lt_zero _),fun _=>HAl.out.2.2 j u b hu hb⟩⟩
 obtain ⟨na,hna⟩ : ∃ n,F.als.length = n:=⟨_,rfl⟩
 have HNa:=Lib.hid hna
 rw [hna] at d10 hnA HSC HOC
 have HGC : Hid (∀ g,A3 = some ⟨g,0,none⟩ → 0 < na → g < wC.heap.size):=Lib.hid (fun g hA hn=>by
  obtain ⟨g',cap,hv,-,-,hl,-⟩:=own_at HOC.out hn
  injection hv with e1
  rw [hA] at e1
  injection e1 with e1
  injection e1 with e1
  omega)
 go_wp2_with fail
 go_loopw [4,5,29] (fun _ _ x wr=>∃ (k : Nat) (us' : List Value),k ≤ na ∧ x = .int .i64 k ∧ Hid (Stg w wr F ⟨.slice A1 F.reps.length k1,.slice A3 na k3,.slice A2 F.cls.length k2,.slice Al rs.length kl⟩) ∧ Hid (wr.ownsRow wB.heap.size 44 1 (.slice A3 na k3) na us') ∧ Hid (AlsM w wC.heap.size wr us' F.als k) ∧ Hid (Kept [w.heap.size + 1] wB wr) ∧ Hid (wC.heap.size ≤ wr.heap.size)) (fun _ _ x _=>na - (intOf x).toNat)
 case atStart=>exact ⟨0,us,Nat.zero_le _,rfl,HSC,HOC,HG,HKC,Lib.hid (Nat.le_refl _)⟩
 case round =>
 obtain ⟨k,us',hk,rfl,HSr,HOr,HMr,HKr,HZr⟩:=hrel
 clear d10 HG HSC HOC
 by_cases hlt : k < na
 ·obtain ⟨g,cap,hva,hcap,hg,hgl,hcs,hzs⟩:=own_at HOr.out (by omega)
  cases hva
  have hk2 : k < F.als.length:=by have:=HNa.out;omega
  have hku : k < us'.length:=by rw [HMr.out.1];exact hk2
  have dk:=hcs k us'[k] (List.getElem?_eq_getElem hku)
  have zk:=hzs k
  have hfs:=(HMr.out.2 k us'[k] F.als[k] (List.getElem?_eq_getElem hku) (List.getElem?_eq_getElem hk2)).2 (Nat.le_refl _)
  obtain ⟨u,hu⟩ : ∃ u,us'[k] = u:=⟨_,rfl⟩
  obtain ⟨b,hb⟩ : ∃ b,F.als[k] = b:=⟨_,rfl⟩
  rw [hu] at dk hfs
  rw [hb] at hfs
  have HBk : Hid (F.als[k] = b):=Lib.hid hb
  have hbl:=HOk.out.sets b (by rw [← hb];exact List.getElem_mem hk2)
  have hbn:=canon_len hbl.1 hbl.2
  have HQf : Hid (∀ W,Below w.heap.size w W → Calls Tryz.prog 50 #[u] W fun e w'=>∃ v',e = .returned v' ∧ FN W.heap.size w' v' b ∧ Below W.heap.size W w'):=Lib.hid (fun W hW=>so_CloneF u b W (hfs.keep hW) (by omega))
  obtain ⟨pu,cu,rfl,-⟩:=hfs
  have HSo : Hid (∀ W,Below wr.heap.size wr W → W.cell? ⟨w.heap.size + 1,10,none⟩ = some (.slice (some ⟨g,0,none⟩) na k3)):=Lib.hid (fun W hW=>(HSr.out.below hW).oc 10)
  have hgC : g < wC.heap.size:=HGC.out g rfl (by omega)
  have hkn : (k : Int) < (na : Int):=by omega
  clear hcs hzs hu hb hbl
  go_upto_region 10 with fail
  refine wp_region_held_drew (S:=fun W=>W.cell? ⟨w.heap.size + 1,10,none⟩ = some (.slice (some ⟨g,0,none⟩) na k3)) (by kernel_rfl) ?_ (fun hHeld=>?_)
  ·exact HSo.out _ drew_below
  refine tkA 0 (some 34) hHeld ?_;try simp only [put_norm]
  refine tkA 1 (some 35) hHeld ?_;try simp only [put_norm]
  refine tkA 2 (some 36) hHeld ?_;try simp only [put_norm]
  refine tkA 3 (some 37) hHeld ?_;try simp only [put_norm]
  refine rdy1 4 (fun K hK=>?_)
  go_simp
  refine (HQf.out _ (HSr.out.base.trans ((drew_below (w:=wr)).mono HSr.out.base.size))).mono ?_
  rintro e w8 ⟨v8,rfl,hfn,hb8⟩
  obtain ⟨p8,c8,rfl⟩ : ∃ p c,v8 = .slice p b.length c:=by obtain ⟨p,c,hv,-⟩:=hfn;exact ⟨p,c,hv⟩
  have HB8 : Hid (Below wr.heap.size wr w8):=Lib.hid ((drew_below (w:=wr)).trans hb8)
  have HFN:=Lib.hid hfn
  have d8:=(HB8.out.cell (p:=⟨g,k,none⟩) hgl).trans dk
  have z8:=(HB8.out.frozen (p:=⟨g,k,none⟩) hgl).trans zk
  have HS9 : Hid ((w8.setCell ⟨g,k,none⟩ (.slice p8 b.length c8)).cell? ⟨w.heap.size + 1,10,none⟩ = some (.slice (some ⟨g,0,none⟩) na k3)):=Lib.hid (((HSr.out.below HB8.out).setRow g k _ (by omega)).oc 10)
  clear hfn hb8
  refine hK.out _ _ ?_ (fun hHeld=>?_)
  ·exact HSo.out _ HB8.out
  clear hK K
  refine tkA 5 (some 39) hHeld ?_;try simp only [put_norm]
  refine rdy1 6 (fun K hK=>?_)
  go_simp
  refine hK.out _ _ ?_ (fun hHeld=>?_)
  ·exact HS9.out
  clear hK K
  refine wpAnyH_done (by kernel_rfl) ?_ _
  go_wp2_with fail
  go_roundw
  case rel=>exact ⟨k + 1,us'.set k (.slice p8 b.length c8),by omega,by go_num,Lib.hid ((HSr.out.below HB8.out).setRow g k _ (by omega)),Lib.hid (own_put (own_below HOr.out HB8.out) k _),Lib.hid (((HMr.out.kept (Kept.of_below (E:=[]) HB8.out) (by simp)).kept (set_kept _ _ _ _) (by simp;omega)).step hk2 (by rw [HBk.out];exact (HFN.out.mono HZr.out).kept (set_kept _ _ _ _) (by simp;omega))),Lib.hid ((HKr.out.trans (Kept.of_below HB8.out)).set _ _ _ (.inr hg)),Lib.hid (Nat.le_trans HZr.out (by rw [set_size];exact HB8.out.size))⟩
  case measure=>simp [intOf];omega
 obtain rfl : k = na:=by omega
 have HAl2 : Hid (∃ us : List Value,wr.ownsRow (w.heap.size + 2) 44 1 (.slice A3 k k3) F.als.length us ∧ us.length = F.als.length ∧ (∀ (j : Nat) u b,us[j]? = some u → F.als[j]? = some b → FN (w.heap.size + 2) wr u b) ∧ ∀ u ∈ us,InB wC.heap.size wr.heap.size u):=Lib.hid ⟨us',by
  have:=own_mono HOr.out hbB
  rw [HNa.out];exact this,HMr.out.1,fun j u b hu hb=>((HMr.out.2 j u b hu hb).1 (by
  have h1:=(List.getElem?_eq_some_iff.1 hb).1
  have h2:=HNa.out
  omega)).mono (Nat.le_trans hbB HKC.out.size),fun u hu=>by
  obtain ⟨j,hj,rfl⟩:=List.mem_iff_getElem.1 hu
  have hj2 : j < F.als.length:=by rw [← HMr.out.1];exact hj
  exact ((HMr.out.2 j us'[j] F.als[j] (List.getElem?_eq_getElem hj) (List.getElem?_eq_getElem hj2)).1 (by have:=HNa.out;omega)).inB⟩
 have HY2 : Hid (wC.heap.size ≤ wr.heap.size):=HZr
 have HRp2 : Hid (wr.ownsRow (w.heap.size + 2) 72 2 (.slice A1 F.reps.length k1) F.reps.length (repCells F.reps)):=Lib.hid (own_kept HRB.out HKr.out (by simp))
 have HCl2 : Hid (wr.ownsRow (w.heap.size + 2) 48 5 (.slice A2 F.cls.length k2) F.cls.length (clsCells F.cls)):=Lib.hid (own_kept HCB.out HKr.out (by simp))
 clear HKC HSB HRB HCB HOr HMr HKr HZr hbB hnA HGC HAl HRp HCl
 obtain ⟨wD,hwD⟩ : ∃ W : World,W = wr:=⟨_,rfl⟩
 rw [← hwD] at HSr HAl2 HRp2 HCl2 HY2 ⊢
 clear hwD
 go_upto_region 12 with fail
 go_cut [] from 41 to 44 (fun W=>∃ A kk,Hid (Stg w W F ⟨.slice A1 F.reps.length k1,.slice A3 k k3,.slice A2 F.cls.length k2,.slice A rs.length kk⟩) ∧ Hid (Kept [w.heap.size + 1] wD W) ∧ Hid (W.ownsRow wD.heap.size 74 7 (.slice A rs.length kk) rs.length (rlsCells rs)))
 case first =>
  have d12 : wD.cell? ⟨w.heap.size + 1,12,none⟩ = some (.slice Al rs.length kl):=HSr.out.oc 12
  go_wp2_with (go_at_call 51;refine (HQ4.out _ HSr.out.base).mono ?_;rintro e w3 ⟨v3,rfl,ho⟩;obtain ⟨A4,k4,rfl⟩:=own_slice ho.own;have HO3:=Lib.hid ho;have HS3:=Lib.hid (HSr.out.below ho.below);have e12 : w3.cell? ⟨w.heap.size + 1,12,none⟩ = some (.slice Al rs.length kl):=HS3.out.oc 12;have z12:=HS3.out.oz 12;clear ho)
  all_goals go_meet
  all_goals exact ⟨A4,k4,Lib.hid (HS3.out.setOut 12 _ (by rfl)),Lib.hid ((Kept.of_below HO3.out.below).set _ _ _ (.inl (by simp))),Lib.hid (own_kept HO3.out.own (set_kept _ _ _ _) (by have:=HSr.out.size;simp;omega))⟩
 case rest =>
 obtain ⟨A4,k4,HSE,HKE,HOE⟩:=hcut
 obtain ⟨wE,hwE⟩ : ∃ W : World,W = wc:=⟨_,rfl⟩
 rw [← hwE] at HSE HKE HOE ⊢
 clear hwE wc HQ4
 have d12 : wE.cell? ⟨w.heap.size + 1,12,none⟩ = some (.slice A4 rs.length k4):=HSE.out.oc 12
 have hbD:=HSr.out.size
 have hnR : rs.length ≤ 65536:=by rw [HNr.out];exact HOk.out.rls
 have HG : Hid (RlsM w wE.heap.size wE rs 0):=Lib.hid (fun j hj=>⟨fun h=>absurd h (Nat.not_lt_zero _),fun _=>HRl.out.2.2 _ (List.getElem_mem hj)⟩)
 have HRm:=Lib.hid HRl.out.1
 have HKE2:=Lib.hid HKE.out.size
 have HY3 : Hid (InB wD.heap.size wE.heap.size (.slice A4 rs.length k4)):=Lib.hid (own_inB HOE.out)
 obtain ⟨nr,hnr⟩ : ∃ n,rs.length = n:=⟨_,rfl⟩
 have HNr2:=Lib.hid hnr
 rw [hnr] at d12 hnR HSE HOE
 have HGE : Hid (∀ g,A4 = some ⟨g,0,none⟩ → 0 < nr → g < wE.heap.size):=Lib.hid (fun g hA hn=>by
  obtain ⟨g',cap,hv,-,-,hl,-⟩:=own_at HOE.out hn
  injection hv with e1
  rw [hA] at e1
  injection e1 with e1
  injection e1 with e1
  omega)
 go_wp2_with fail
 go_loopw [6,48] (fun _ x wr=>∃ (m : Nat) (rs' : List (Rl × Value)),m ≤ nr ∧ x = .int .i64 m ∧ Hid (rs'.length = nr) ∧ Hid (Stg w wr F ⟨.slice A1 F.reps.length k1,.slice A3 k k3,.slice A2 F.cls.length k2,.slice A4 nr k4⟩) ∧ Hid (wr.ownsRow wD.heap.size 74 7 (.slice A4 nr k4) nr (rlsCells rs')) ∧ Hid (rs'.map (·.1) = F.rls) ∧ Hid (RlsM w wE.heap.size wr rs' m) ∧ Hid (Kept [w.heap.size + 1] wD wr) ∧ Hid (wE.heap.size ≤ wr.heap.size)) (fun _ x _=>nr - (intOf x).toNat)
 case atStart=>exact ⟨0,rs,Nat.zero_le _,rfl,HNr2,HSE,HOE,HRm,HG,HKE,Lib.hid (Nat.le_refl _)⟩
 case round =>
 obtain ⟨m,rs',hm,rfl,HLn,HSr2,HOr,HMp,HMr,HKr,HZr⟩:=hrel
 clear d12 HG HSE HOE HRm HKE
 by_cases hlt : m < nr
 ·obtain ⟨g,cap,hva,hcap,hg,hgl,hcs,hzs⟩:=own_at HOr.out (by omega)
  cases hva
  have hmu : m < rs'.length:=by rw [HLn.out];exact hlt
  obtain ⟨-,-,-,-,-,-,q6⟩:=rls_at rs' m hmu
  have dk:=hcs _ _ q6
  have zk:=hzs (m * 7 + 6)
  have hfs:=(HMr.out m hmu).2 (Nat.le_refl _)
  obtain ⟨r,hr⟩ : ∃ r,rs'[m] = r:=⟨_,rfl⟩
  obtain ⟨r1,u⟩:=r
  rw [hr] at dk hfs
  dsimp only at dk hfs
  have HRk : Hid (rs'[m] = (r1,u)):=Lib.hid hr
  have hin : r1 ∈ F.rls:=by
   rw [← HMp.out]
   exact List.mem_map.2 ⟨rs'[m],List.getElem_mem hmu,by rw [hr]⟩
  have hbl:=HOk.out.nexts r1 hin
  have hbn:=canon_len hbl.1 hbl.2
  obtain ⟨b,hb⟩ : ∃ b,r1.next = b:=⟨_,rfl⟩
  rw [hb] at hfs hbn
  have HBk:=Lib.hid hb
  have HQf : Hid (∀ W,Below w.heap.size w W → Calls Tryz.prog 50 #[u] W fun e w'=>∃ v',e = .returned v' ∧ FN W.heap.size w' v' b ∧ Below W.heap.size W w'):=Lib.hid (fun W hW=>so_CloneF u b W (hfs.keep hW) (by omega))
  obtain ⟨pu,cu,rfl,-⟩:=hfs
  have HSo : Hid (∀ W,Below wr.heap.size wr W → W.cell? ⟨w.heap.size + 1,12,none⟩ = some (.slice (some ⟨g,0,none⟩) nr k4)):=Lib.hid (fun W hW=>(HSr2.out.below hW).oc 12)
  have hgE : g < wE.heap.size:=HGE.out g rfl (by omega)
  have hmn : (m : Int) < (nr : Int):=by omega
  clear hcs hzs hr hb hbl hin q6
  go_upto_region 16 with fail
  refine wp_region_held_drew (S:=fun W=>W.cell? ⟨w.heap.size + 1,12,none⟩ = some (.slice (some ⟨g,0,none⟩) nr k4)) (by kernel_rfl) ?_ (fun hHeld=>?_)
  ·exact HSo.out _ drew_below
  refine tkA 0 (some 51) hHeld ?_;try simp only [put_norm]
  refine tkA 1 (some 52) hHeld ?_;try simp only [put_norm]
  refine tkA 2 (some 53) hHeld ?_;try simp only [put_norm]
  refine tkA 3 (some 54) hHeld ?_;try simp only [put_norm]
  refine tkA 4 (some 55) hHeld ?_;try simp only [put_norm]
  refine tkA 5 (some 56) hHeld ?_;try simp only [put_norm]
  refine tkA 6 (some 57) hHeld ?_;try simp only [put_norm]
  refine tkA 7 (some 58) hHeld ?_;try simp only [put_norm]
  refine rdy1 8 (fun K hK=>?_)
  go_simp
  refine hK.out _ _ ?_ (fun hHeld=>?_)
  ·first | exact HSo.out _ drew_below | exact HS9.out
  clear hK K
  refine rdy1 9 (fun K hK=>?_)
  go_simp
  refine (HQf.out _ (HSr2.out.base.trans ((drew_below (w:=wr)).mono HSr2.out.base.size))).mono ?_
  rintro e w8 ⟨v8,rfl,hfn,hb8⟩
  obtain ⟨p8,c8,rfl⟩ : ∃ p c,v8 = .slice p b.length c:=by obtain ⟨p,c,hv,-⟩:=hfn;exact ⟨p,c,hv⟩
  have HB8 : Hid (Below wr.heap.size wr w8):=Lib.hid ((drew_below (w:=wr)).trans hb8)
  have HFN:=Lib.hid hfn
  have d8:=(HB8.out.cell (p:=⟨g,m * 7 + 6,none⟩) hgl).trans dk
  have z8:=(HB8.out.frozen (p:=⟨g,m * 7 + 6,none⟩) hgl).trans zk
  have HS9 : Hid ((w8.setCell ⟨g,m * 7 + 6,none⟩ (.slice p8 b.length c8)).cell? ⟨w.heap.size + 1,12,none⟩ = some (.slice (some ⟨g,0,none⟩) nr k4)):=Lib.hid (((HSr2.out.below HB8.out).setRow g (m * 7 + 6) _ (by omega)).oc 12)
  clear hfn hb8
  refine hK.out _ _ ?_ (fun hHeld=>?_)
  ·exact HSo.out _ HB8.out
  clear hK K
  refine tkA 10 (some 61) hHeld ?_;try simp only [put_norm]
  refine tkA 11 (some 62) hHeld ?_;try simp only [put_norm]
  refine rdy1 12 (fun K hK=>?_)
  go_simp
  refine hK.out _ _ ?_ (fun hHeld=>?_)
  ·first | exact HSo.out _ drew_below | exact HS9.out
  clear hK K
  refine wpAnyH_done (by kernel_rfl) ?_ _
  go_wp2_with fail
  go_roundw
  case rel=>exact ⟨m + 1,rs'.set m (rs'[m].1,.slice p8 b.length c8),by omega,by go_num,Lib.hid (by rw [List.length_set];exact HLn.out),Lib.hid ((HSr2.out.below HB8.out).setRow g (m * 7 + 6) _ (by omega)),Lib.hid (by rw [← rls_set rs' m hmu];exact own_put (own_below HOr.out HB8.out) (m * 7 + 6) _),Lib.hid (by rw [map_fst_set rs' m hmu];exact HMp.out),Lib.hid (((HMr.out.kept (Kept.of_below (E:=[]) HB8.out) (by simp)).kept (set_kept _ _ _ _) (by simp;omega)).step hmu (by rw [HRk.out,HBk.out];exact (HFN.out.mono HZr.out).kept (set_kept _ _ _ _) (by simp;omega))),Lib.hid ((HKr.out.trans (Kept.of_below HB8.out)).set _ _ _ (.inr hg)),Lib.hid (Nat.le_trans HZr.out (by rw [set_size];exact HB8.out.size))⟩
  case measure=>simp [intOf];omega
 obtain rfl : m = nr:=by omega
 have HAff : Hid (AffZ (w.heap.size + 2) wr F ⟨.slice A1 F.reps.length k1,.slice A3 k k3,.slice A2 F.cls.length k2,.slice A4 m k4⟩):=Lib.hid (by
  obtain ⟨ua,a1,a2,a3,a4⟩:=HAl2.out
  obtain ⟨y1,y2,y3,y4,y5⟩:=HY1.out
  rw [HNa.out] at y3
  have y6:=HY3.out
  rw [HNr2.out] at y6
  have hfn : ∀ r ∈ rs',FN wE.heap.size wr r.2 r.1.next:=fun r hr=>by
   obtain ⟨j,hj,rfl⟩:=List.mem_iff_getElem.1 hr
   exact (HMr.out j hj).1 (by have:=HLn.out;omega)
  refine ⟨wB.heap.size,wC.heap.size,wD.heap.size,wE.heap.size,ua,rs',⟨y4,y5,HY2.out,HKE2.out,HZr.out⟩,⟨y1,y2,y3,a4,y6,fun r hr=>(hfn r hr).inB⟩,own_kept HRp2.out HKr.out (by simp),⟨own_kept a1 HKr.out (by simp),a2,fun j u b hu hb=>(a3 j u b hu hb).kept HKr.out (by simp)⟩,own_kept HCl2.out HKr.out (by simp),HMp.out,?_,fun r hr=>(hfn r hr).mono (Nat.le_trans hbD HKE2.out)⟩
  rw [HLn.out];exact own_mono HOr.out hbD)
 clear HAl2 HRp2 HCl2 HOr HMp HMr HKr HZr HLn HY1 HY2 HY3
 have x0 : wr.cell? ⟨w.heap.size + 1,0,none⟩ = some (.int .i64 F.kind):=HSr2.out.oc 0
 have x1 : wr.cell? ⟨w.heap.size + 1,1,none⟩ = some (.string F.charset):=HSr2.out.oc 1
 have x2 : wr.cell? ⟨w.heap.size + 1,2,none⟩ = some (.string F.tryT):=HSr2.out.oc 2
 have x3 : wr.cell? ⟨w.heap.size + 1,3,none⟩ = some (.int .u16 F.s0):=HSr2.out.oc 3
 have x4 : wr.cell? ⟨w.heap.size + 1,4,none⟩ = some (.int .u16 F.s1):=HSr2.out.oc 4
 have x5 : wr.cell? ⟨w.heap.size + 1,5,none⟩ = some (.int .u16 F.s2):=HSr2.out.oc 5
 have x6 : wr.cell? ⟨w.heap.size + 1,6,none⟩ = some (.int .u16 F.s3):=HSr2.out.oc 6
 have x7 : wr.cell? ⟨w.heap.size + 1,7,none⟩ = some (.int .u16 F.s4):=HSr2.out.oc 7
 have x8 : wr.cell? ⟨w.heap.size + 1,8,none⟩ = some (.int .i64 F.least):=HSr2.out.oc 8
 have x9 : wr.cell? ⟨w.heap.size + 1,9,none⟩ = some (.slice A1 F.reps.length k1):=HSr2.out.oc 9
 have x10 : wr.cell? ⟨w.heap.size + 1,10,none⟩ = some (.slice A3 k k3):=HSr2.out.oc 10
 have x11 : wr.cell? ⟨w.heap.size + 1,11,none⟩ = some (.slice A2 F.cls.length k2):=HSr2.out.oc 11
 have x12 : wr.cell? ⟨w.heap.size + 1,12,none⟩ = some (.slice A4 m k4):=HSr2.out.oc 12
 have hz:=Lib.cell_of_heap HSr2.out.res
 have z0:=hz 0
 have z1:=hz 1
 have z2:=hz 2
 have z3:=hz 3
 have z4:=hz 4
 have z5:=hz 5
 have z6:=hz 6
 have z7:=hz 7
 have z8:=hz 8
 have z9:=hz 9
 have z10:=hz 10
 have z11:=hz 11
 have z12:=hz 12
 simp only [List.getElem?_toArray,List.getElem?_cons_zero,List.getElem?_cons_succ] at z0 z1 z2 z3 z4 z5 z6 z7 z8 z9 z10 z11 z12
 have hy:=Lib.frozen_of_heap HSr2.out.res
 have y0:=hy 0
 have y1:=hy 1
 have y2:=hy 2
 have y3:=hy 3
 have y4:=hy 4
 have y5:=hy 5
 have y6:=hy 6
 have y7:=hy 7
 have y8:=hy 8
 have y9:=hy 9
 have y10:=hy 10
 have y11:=hy 11
 have y12:=hy 12
 clear hz hy
 go_wp2_with fail
 refine bodyPost_ret (v:=affV F ⟨.slice A1 F.reps.length k1,.slice A3 k k3,.slice A2 F.cls.length k2,.slice A4 m k4⟩) (by simp [results,Tryz.results16,go_sem,z0,z1,z2,z3,z4,z5,z6,z7,z8,z9,z10,z11,z12,affV,affA];try rfl) rfl ?_
 refine ⟨_,rfl,(HAff.out.kept (X:=[w.heap.size]) ?_ (by simp)).mono (by omega),?_⟩
 ·exact (((((((((((((Kept.refl _ wr).set _ _ _ (.inl (by simp))).set _ _ _ (.inl (by simp))).set _ _ _ (.inl (by simp))).set _ _ _ (.inl (by simp))).set _ _ _ (.inl (by simp))).set _ _ _ (.inl (by simp))).set _ _ _ (.inl (by simp))).set _ _ _ (.inl (by simp))).set _ _ _ (.inl (by simp))).set _ _ _ (.inl (by simp))).set _ _ _ (.inl (by simp))).set _ _ _ (.inl (by simp))).set _ _ _ (.inl (by simp))
 exact (((((((((((((HSr2.out.base).setCell (by simp) _).setCell (by simp) _).setCell (by simp) _).setCell (by simp) _).setCell (by simp) _).setCell (by simp) _).setCell (by simp) _).setCell (by simp) _).setCell (by simp) _).setCell (by simp) _).setCell (by simp) _).setCell (by simp) _).setCell (by simp) _
end Go.Proofs.YtkdajhmlhjkcdaaGreatDoor
namespace Go.Proofs.YtkdajhmlhjkcdaaGreatDoor
open Go.RowKit Go.Maps
theorem qrls_at : ∀ (rs : List (Rl × Value)) (k : Nat) (hk : k < rs.length),(qrls rs)[k * 8]? = some (.int .i64 rs[k].1.kind) ∧ (qrls rs)[k * 8 + 1]? = some (.int .i64 rs[k].1.flag) ∧ (qrls rs)[k * 8 + 2]? = some (.bool rs[k].1.cross) ∧ (qrls rs)[k * 8 + 3]? = some (.string rs[k].1.strip) ∧ (qrls rs)[k * 8 + 4]? = some (.string rs[k].1.add) ∧ (qrls rs)[k * 8 + 5]? = some (.string rs[k].1.cond) ∧ (qrls rs)[k * 8 + 6]? = some rs[k].2 ∧ (qrls rs)[k * 8 + 7]? = some (.int .i64 rs[k].1.line)
 | [],_,hk=>absurd hk (Nat.not_lt_zero _)
 | c :: r,0,_=>⟨rfl,rfl,rfl,rfl,rfl,rfl,rfl,rfl⟩
 | c :: r,k + 1,hk=>by
   have:=qrls_at r k (by simpa using hk)
   have e : qrls (c :: r) = [.int .i64 c.1.kind,.int .i64 c.1.flag,.bool c.1.cross,.string c.1.strip,.string c.1.add,.string c.1.cond,c.2,.int .i64 c.1.line] ++ qrls r:=by simp [qrls]
   have key : ∀ j,(qrls (c :: r))[(k + 1) * 8 + j]? = (qrls r)[k * 8 + j]?:=fun j=>by
    rw [e,List.getElem?_append_right (by simp;omega)]
    congr 1
    simp;omega
   exact ⟨(key 0).trans this.1,(key 1).trans this.2.1,(key 2).trans this.2.2.1,(key 3).trans this.2.2.2.1,(key 4).trans this.2.2.2.2.1,(key 5).trans this.2.2.2.2.2.1,(key 6).trans this.2.2.2.2.2.2.1,(key 7).trans this.2.2.2.2.2.2.2⟩
def QFileAt (w : World) (rf : Nat) (F : Fl) : Prop:=∃ v : Qs,w.heap[rf]? = some (.cells (qfile v F) 116 (0,0)) ∧ Rd w 2 v.reps F.reps.length (repCells F.reps) ∧
 (∃ us : List Value,Rd w 1 v.als F.als.length us ∧ us.length = F.als.length ∧ ∀ (k : Nat) u b,us[k]? = some u → F.als[k]? = some b → IS w u b) ∧ Rd w 5 v.cls F.cls.length (qcls F.cls) ∧
 ∃ rs : List (Rl × Value),rs.map (·.1) = F.rls ∧ Rd w 8 v.rls rs.length (qrls rs) ∧ ∀ r ∈ rs,IS w r.2 r.1.next
theorem QFileAt.keep {w w' : World} {rf : Nat} {F : Fl} (h : QFileAt w rf F) (hb : Below w.heap.size w w') : QFileAt w' rf F:=by
 obtain ⟨v,h1,h2,⟨us,h3,h4,h5⟩,h6,rs,h7,h8,h9⟩:=h
 exact ⟨v,(hb.block _ (block_lt h1)).trans h1,h2.keep hb,⟨us,h3.keep hb,h4,fun k u b hu hb'=>(h5 k u b hu hb').keep hb⟩,h6.keep hb,rs,h7,h8.keep hb,fun r hr=>(h9 r hr).keep hb⟩
theorem QM.fileAt {w0 w : World} {L : List Nat} {rr rf a : Nat} {v : Qs} {E : Int} {all : List Row} {S : Sx} (h : QM w0 w L rr rf v E all a S) : QFileAt w rf S.fl:=by
 obtain ⟨us,h1,h2,h3⟩:=h.als
 obtain ⟨rs,h4,h5,h6⟩:=h.rls
 exact ⟨v,h.file,Rd.of_own h.reps.1,⟨us,Rd.of_own h1.1,h2,fun k u a hu ha=>(h3 k u a hu ha).is⟩,Rd.of_own h.cls.1,rs,h4,Rd.of_own h5.1,fun r hr=>(h6 r hr).is⟩
def RefP (l : List UInt8) (w : World) (e : Ending) (w' : World) : Prop:=Below w.heap.size w w' ∧ match affR l with
 | .error p=>e = .returned (.tuple #[.pointer none,.int .i64 p.1,.int .i64 p.2])
 | .ok F=>∃ rf,e = .returned (.tuple #[.pointer (some ⟨rf,0,none⟩),.int .i64 0,.int .i64 0]) ∧ QFileAt w' rf F ∧ FlOk F ∧ w.heap.size ≤ rf
theorem RefP.bad {l : List UInt8} {w w' : World} {line c : Int} (ha : affR l = .error (line,c)) (hb : Below w.heap.size w w') : RefP l w (.returned (.tuple #[.pointer none,.int .i64 line,.int .i64 c])) w':=⟨hb,by rw [ha]⟩
theorem RefP.good {l : List UInt8} {w w' : World} {F : Fl} {rf : Nat} (ha : affR l = .ok F) (hb : Below w.heap.size w w') (hf : QFileAt w' rf F) (hk : FlOk F) (hr : w.heap.size ≤ rf) : RefP l w (.returned (.tuple #[.pointer (some ⟨rf,0,none⟩),.int .i64 0,.int .i64 0])) w':=⟨hb,by rw [ha];exact ⟨rf,rfl,hf,hk,hr⟩⟩
def qs0 (rv : Value) : Qs:=⟨rv,.slice none 0 0,.slice none 0 0,.slice none 0 0,.slice none 0 0,.slice none 0 0⟩
theorem QM.start (w : World) (rv : Value) (E : Int) (rows : List Row) (hr : RowsM w rv rows) : QM w ((w.alloc (.cells #[.int .i64 1,.string ⟨#[]⟩,.string ⟨#[]⟩,.int .i64 0,.int .i64 0,.int .i64 0,.int .i64 0,.int .i64 0,.int .i64 3,.slice none 0 0,.slice none 0 0,.slice none 0 0,.slice none 0 0] 116)).alloc (.cells #[.pointer (some ⟨w.heap.size,0,none⟩),rv,.int .i64 0,.int .i64 E,.slice none 0 0,.int .i64 0] 118))
  [w.heap.size,w.heap.size + 1] (w.heap.size + 1) w.heap.size (qs0 rv) E rows 0 ⟨fl0,rows,[],0⟩:=by
 obtain ⟨w1,hw1⟩ : ∃ W,w.alloc (.cells #[.int .i64 1,.string ⟨#[]⟩,.string ⟨#[]⟩,.int .i64 0,.int .i64 0,.int .i64 0,.int .i64 0,.int .i64 0,.int .i64 3,.slice none 0 0,.slice none 0 0,.slice none 0 0,.slice none 0 0] 116) = W:=⟨_,rfl⟩
 have s1 : w1.heap.size = w.heap.size + 1:=by rw [← hw1];simp
 have b1 : Below w.heap.size w w1:=by rw [← hw1];exact (Below.refl _ _).alloc (Nat.le_refl _) _
 have f1 : w1.heap[w.heap.size]? = some (.cells #[.int .i64 1,.string ⟨#[]⟩,.string ⟨#[]⟩,.int .i64 0,.int .i64 0,.int .i64 0,.int .i64 0,.int .i64 0,.int .i64 3,.slice none 0 0,.slice none 0 0,.slice none 0 0,.slice none 0 0] 116 (0,0)):=by rw [← hw1];exact heap_alloc_new w _
 rw [hw1]
 obtain ⟨w2,hw2⟩ : ∃ W,w1.alloc (.cells #[.pointer (some ⟨w.heap.size,0,none⟩),rv,.int .i64 0,.int .i64 E,.slice none 0 0,.int .i64 0] 118) = W:=⟨_,rfl⟩
 have s2 : w2.heap.size = w.heap.size + 1 + 1:=by rw [← hw2];simp [s1]
 have b2 : Below w1.heap.size w1 w2:=by rw [← hw2];exact (Below.refl _ _).alloc (Nat.le_refl _) _
 have f2 : w2.heap[w.heap.size + 1]? = some (.cells #[.pointer (some ⟨w.heap.size,0,none⟩),rv,.int .i64 0,.int .i64 E,.slice none 0 0,.int .i64 0] 118 (0,0)):=by rw [← hw2,← s1];exact heap_alloc_new w1 _
 rw [hw2]
 refine ⟨b1.trans (b2.mono (by omega)),?_,by simp,by simp,f2,(b2.block _ (by omega)).trans f1,hr,OwnL.nil_ _ _ _ _,OwnL.nil_ _ _ _ _,⟨[],OwnL.nil_ _ _ _ _,rfl,fun k u a hu=>by simp at hu⟩,OwnL.nil_ _ _ _ _,⟨[],rfl,OwnL.nil_ _ _ _ _,fun r hr=>by cases hr⟩⟩
 intro x hx;simp at hx;omega
theorem wdQ_no {s : ByteArray} (h : keyN s = 13) : wdQ s = 0:=by unfold wdQ;rw [if_pos h]
theorem wdQ_key {s : ByteArray} {k : Nat} (h : keyN s = k) (hk : k < 13) : wdQ s = (widthN k : Nat):=by unfold wdQ;rw [if_neg (by omega),h]
set_option maxHeartbeats 8000000 in
set_option maxRecDepth 100000 in
theorem so_refAff (s : ByteArray) (w : World) : Calls Tryz.prog 13 #[.string s] w (RefP s.data.toList w):=by
 obtain ⟨i0,hi,hz0,hz1,hz2⟩:=info_parts str_info
 have HRows:=Lib.hid (Rows01_any s w)
 by_cases hbig : 65536 < s.size
 ·have HX : Hid (affR s.data.toList = .error (0,10)):=Lib.hid (by rw [affR,if_pos (by rw [len_toList];exact hbig)])
  unfold codeS at HRows
  rw [if_pos hbig] at HRows
  go_enter Tryz.func13,Tryz.ntmps13
  go_wp2_with (go_at_call 41;refine HRows.out.mono ?_;rintro e w1 ⟨v,rs,rfl,how,hrr,habs⟩;have HB1:=Lib.hid how.below;clear how hrr habs)
  go_ret3
  exact .bad HX.out HB1.out
 have hcode : codeS s = 0:=by unfold codeS;rw [if_neg hbig]
 rw [hcode] at HRows
 have HL : Hid (∀ W,Calls Tryz.prog 42 #[.string s] W fun e w'=>∃ v,e = .returned v ∧ Own W w' 9 1 v (linesOf s.data.toList).length (strV ((linesOf s.data.toList).map mkS))):=Lib.hid (fun W=>Lines01_any s W (by omega))
 obtain ⟨nE,hnE⟩ : ∃ n,(linesOf s.data.toList).length = n:=⟨_,rfl⟩
 have hnE2 : nE ≤ 65536:=by
  have:=eachOf_len s.data.toList
  rw [eachOf,if_neg (by rw [len_toList];exact hbig),numbered_len,hnE] at this
  exact this
 rw [hnE] at HL
 obtain ⟨R,hR⟩ : ∃ R,readGo ((nE : Int) + 1) (rowsOf (eachOf s.data.toList)).length ⟨fl0,rowsOf (eachOf s.data.toList),[],0⟩ = R:=⟨_,rfl⟩
 have HAff : Hid (affR s.data.toList = affEnd R):=Lib.hid (by
  rw [affR_small _ (by rw [len_toList];exact hbig),hnE,hR])
 have HBd0:=Lib.hid (Bd.start s.data.toList)
 have HR:=Lib.hid hR
 have hwr : IntKind.i64.wrap ((nE : Int) + 1) = (nE : Int) + 1:=by rw [IntKind.wrap_i64];omega
 clear hR hnE hcode hbig
 go_enter Tryz.func13,Tryz.ntmps13
 go_upto_region 4 with (go_at_call 41;refine HRows.out.mono ?_;rintro e w1 ⟨v,rs,rfl,how,hrr,habs⟩;have HOw:=Lib.hid how;have HRr:=Lib.hid hrr;have HAbs:=Lib.hid habs;clear how hrr habs)
 obtain ⟨Av,cpv,rfl⟩:=own_slice HOw.out.own
 go_upto_region 5 with (go_at_call 42;refine (HL.out _).mono ?_;rintro e w2 ⟨v2,rfl,how2⟩;obtain ⟨A2,cp2,rfl⟩:=own_slice how2.own;have HB2:=Lib.hid how2.below;clear how2)
 have HB : Hid (Below w.heap.size w w2):=Lib.hid (HOw.out.below.trans (HB2.out.mono HOw.out.below.size))
 obtain ⟨all,hall⟩ : ∃ l,rowsOf (eachOf s.data.toList) = l:=⟨_,rfl⟩
 have HRows2 : Hid (RowsM w2 (.slice Av rs.length cpv) all):=Lib.hid ⟨rs,by rw [HAbs.out,hall],Rd.of_own (own_below HOw.out.own HB2.out),fun r hr=>(HRr.out r hr).keep HB2.out⟩
 have hrl : rs.length = all.length:=by have h:=congrArg List.length HAbs.out;rw [hall] at h;simpa [rowAbs] using h
 rw [hall] at HR HBd0
 rw [hrl] at HRows2 ⊢
 obtain ⟨N,hN⟩ : ∃ n,all.length = n:=⟨_,rfl⟩
 have hN2 : N ≤ 65536:=by rw [← hN,← hall];exact rows_le _
 rw [hN] at HR HRows2 ⊢
 have HNn:=Lib.hid hN
 clear hall hrl hN HOw HRr HAbs HB2 HL HRows
 go_cut [8] from 28 to 35 (fun p W=>p = .pointer (some ⟨w2.heap.size + 1,0,none⟩) ∧ Hid (QM w2 W [w2.heap.size,w2.heap.size + 1] (w2.heap.size + 1) w2.heap.size (qs0 (.slice Av N cpv)) ((nE : Int) + 1) all 0 ⟨fl0,all,[],0⟩))
 case first =>
  have HSt:=Lib.hid (QM.start w2 (.slice Av N cpv) ((nE : Int) + 1) all HRows2.out)
  go_wp2_with fail
  all_goals go_meet
  all_goals exact ⟨rfl,HSt⟩
 case rest =>
 obtain ⟨rfl,HSt⟩:=hcut
 obtain ⟨rr,hrr⟩ : ∃ n,w2.heap.size + 1 = n:=⟨_,rfl⟩
 obtain ⟨rf,hrf⟩ : ∃ n,w2.heap.size = n:=⟨_,rfl⟩
 have HRf : Hid (w.heap.size ≤ rf):=Lib.hid (by rw [← hrf];exact HB.out.size)
 obtain ⟨EE,hEE⟩ : ∃ e,(nE : Int) + 1 = e:=⟨_,rfl⟩
 rw [hrr,hrf,hEE] at HSt
 rw [hEE] at HR
 rw [hrr]
 have HRQ0 : Hid (RQ w2 wc [rf,rr] rr rf EE all 0 0 ⟨fl0,all,[],0⟩):=Lib.hid ⟨HBd0.out,_,0,⟨by simp,rfl⟩,HSt.out⟩
 clear HSt hrr hrf hEE hwr HBd0
 go_wp2_with fail
 go_loopg [6,9,10,11] N (fun g _ _ _ _ wr=>∃ (S : Sx) (L : List Nat),S.rows.length ≤ g ∧ Hid (RQ w2 wr L rr rf EE all 0 0 S) ∧ Hid (readGo EE g S = R))
 case atStart=>exact ⟨_,_,Nat.le_of_eq HNn.out,HRQ0,HR⟩
 case round =>
 obtain ⟨S,L,hg,HRQ,HGo⟩:=hrel
 clear HRQ0 HR
 obtain ⟨hbd,v,a,hpa,hqm⟩:=HRQ.out
 have c2:=hqm.r2
 rcases hrows : S.rows with _ | ⟨⟨l,row⟩,rest⟩
 ·have HRe : Hid (R = .ok S):=Lib.hid (by
   rw [← HGo.out]
   rcases gk with _ | g
   ·rfl
   rw [readGo,hrows])
  have haN : a = N:=by have:=hpa.1;rw [hrows] at this;rw [HNn.out] at this;simpa using this
  subst haN
  obtain ⟨wo,rfl⟩ : ∃ wo : World,wo = wr:=⟨_,rfl⟩
  have c0:=hqm.r0
  have hn : ∃ n,S.fl.rls.length = n:=⟨_,rfl⟩
  obtain ⟨n,hn⟩:=hn
  obtain ⟨rs,hrs1,hrs2,hrs3⟩:=hqm.rls
  have hlr : rs.length = n:=by rw [← hn,← hrs1];simp
  have hn2 : n ≤ 65536:=by have:=hbd.rls;omega
  obtain ⟨AR,cpR,hvR⟩:=own_slice hrs2.1
  rw [hlr] at hvR
  have c12 : wo.cell? ⟨rf,12,none⟩ = some (.slice AR n cpR):=by rw [hqm.fc 12,← hvR];rfl
  have HRd:=Lib.hid (Rd.of_own hrs2.1)
  have HRs1:=Lib.hid hrs1
  have HIs : Hid (∀ r ∈ rs,IS wo r.2 r.1.next):=Lib.hid (fun r hr=>(hrs3 r hr).is)
  have HLr:=Lib.hid hlr
  have HV:=Lib.hid hvR
  have HNr:=Lib.hid hn
  have HM:=Lib.hid hqm
  have HBd:=Lib.hid hbd
  have hrfl:=block_lt hqm.file
  have hcl3 : S.fl.cls.length ≤ 65536:=by have h1:=hbd.cls;omega
  clear hrows hbd hpa hqm hrs1 hrs2 hrs3 hlr hvR hn hg
  go_wp2_with fail
  go_loopw [13,14,15,16,17] (fun x _ _ _ _ wz=>∃ m : Nat,m ≤ n ∧ x = .int .i64 m ∧ Hid (Below wo.heap.size wo wz) ∧ Hid (okTo S.fl m)) (fun x _ _ _ _ _=>n - (intOf x).toNat)
  case atStart=>exact ⟨0,Nat.zero_le _,rfl,Lib.hid (Below.refl _ _),Lib.hid (fun j _ hj=>absurd hj (Nat.not_lt_zero _))⟩
  case round =>
  obtain ⟨m,hm,rfl,HBz,HOk⟩:=hrel
  have e12:=(HBz.out.cell (World.block_lt_of_cell? _ _ c12)).trans c12
  by_cases hlt : m < n
  ·have hlt2 : m < S.fl.rls.length:=by have:=HNr.out;omega
   have hmr : m < rs.length:=by have:=HLr.out;omega
   have hr1 : rs[m].1 = S.fl.rls[m]:=by
    have h : rs.map (·.1) = S.fl.rls:=HRs1.out
    simp [← h]
   obtain ⟨-,A,cap,hvA,hcap,hcells⟩:=HRd.out
   rw [HV.out,HLr.out] at hvA
   cases hvA
   obtain ⟨g,o,rfl,hc2⟩:=hcells.resolve_left (by have:=HLr.out;omega)
   obtain ⟨q0,q1,q2,q3,q4,q5,q6,q7⟩:=qrls_at rs m hmr
   have d6:=hc2 _ _ q6
   have d7:=hc2 _ _ q7
   rw [← Nat.add_assoc] at d6 d7
   have hio:=HIs.out _ (List.getElem_mem hmr)
   obtain ⟨nv,hnv⟩ : ∃ u,rs[m].2 = u:=⟨_,rfl⟩
   rw [hr1] at d7 hio
   rw [hnv] at d6 hio
   obtain ⟨r,hr⟩ : ∃ r,S.fl.rls[m] = r:=⟨_,rfl⟩
   have HRl : Hid (S.fl.rls[m] = r):=Lib.hid hr
   rw [hr] at d7 hio
   obtain ⟨pn,cn,rfl,hcn,hnx⟩:=hio
   have HNx:=Lib.hid hnx
   have HDd : Hid (∀ W,Below wo.heap.size wo W → W.cell? ⟨rf,12,none⟩ = some (.slice (some ⟨g,o,none⟩) n cpR) ∧ W.cell? ⟨g,o + m * 8 + 6,none⟩ = some (.slice pn r.next.length cn) ∧ W.cell? ⟨g,o + m * 8 + 7,none⟩ = some (.int .i64 r.line)):=Lib.hid (fun W hW=>⟨(hW.cell (World.block_lt_of_cell? _ _ c12)).trans c12,(hW.cell (World.block_lt_of_cell? _ _ d6)).trans d6,(hW.cell (World.block_lt_of_cell? _ _ d7)).trans d7⟩)
   have hnb : canon r.next = r.next ∧ ∀ x ∈ r.next,0 ≤ x ∧ x ≤ 65535:=by rw [← HRl.out];exact HBd.out.nexts _ (List.getElem_mem hlt2)
   have HNb:=Lib.hid hnb.2
   have hnl:=canon_len hnb.1 hnb.2
   clear q0 q1 q2 q3 q4 q5 q6 q7 hc2 hcells hnv hr1 hmr hr hnx hnb d6 d7 hcap
   go_wp2_with fail
   go_loopw [14,15,16,17] (fun x _ _ _ wy=>∃ q : Nat,q ≤ r.next.length ∧ x = .int .i64 q ∧ Hid (Below wo.heap.size wo wy) ∧ Hid ((r.next.take q).all (goesB S.fl) = true)) (fun x _ _ _ _=>r.next.length - (intOf x).toNat)
   case atStart=>exact ⟨0,Nat.zero_le _,rfl,HBz,Lib.hid rfl⟩
   case round =>
   obtain ⟨q,hq,rfl,HBy,HTk⟩:=hrel
   clear e12
   obtain ⟨e12,d6,d7⟩:=HDd.out _ HBy.out
   by_cases hlt3 : q < r.next.length
   ·obtain ⟨x,hx⟩ : ∃ x,r.next[q] = x:=⟨_,rfl⟩
    have hxb:=HNb.out _ (List.getElem_mem hlt3)
    rw [hx] at hxb
    obtain ⟨bb,off,rfl,hcs2⟩:=HNx.out.resolve_left (by omega)
    have e5:=hcs2 q hlt3
    have hgx : r.next.getD q 0 = x:=by rw [← hx];simp [List.getD,hlt3]
    rw [hgx] at e5
    have d5:=(HBy.out.cell (World.block_lt_of_cell? _ _ e5)).trans e5
    have hMy:=HM.out.below HBy.out
    have hcl:=so_qFind rf S.fl.cls x wr hMy.clsF hcl3
    have hgo:=goes_of S.fl x _ _ rfl rfl
    unfold qclsP qclsV at hcl
    obtain ⟨d,hd⟩ : ∃ d,(S.fl.cls.find? (fun c=>c.flag == x)).getD noCl = d:=⟨_,rfl⟩
    obtain ⟨is,his⟩ : ∃ b,(S.fl.cls.find? (fun c=>c.flag == x)).isSome = b:=⟨_,rfl⟩
    rw [hd,his] at hcl hgo
    have HCl:=Lib.hid hcl
    have HTn : Hid (∀ b,goesB S.fl x = b → (r.next.take (q + 1)).all (goesB S.fl) = b):=Lib.hid (fun b hb=>by
     rw [List.take_succ_eq_append_getElem hlt3,List.all_append,HTk.out,hx];simp [hb])
    have HBad : Hid (goesB S.fl x = false → affR s.data.toList = .error (r.line,118)):=Lib.hid (fun hb=>by
     have hck : checkE S.fl = some r.line:=by
      rw [← HRl.out]
      refine HOk.out.bad hlt2 ?_
      rw [HRl.out]
      rw [Bool.eq_false_iff]
      intro h
      rw [List.all_eq_true] at h
      have:=h x (by rw [← hx];exact List.getElem_mem hlt3)
      rw [hb] at this;cases this
     rw [HAff.out,HRe.out,affEnd,hck])
    clear hcl e5 hcs2 hd his hx hgx hMy
    by_cases hs0 : x = S.fl.s0
    ·have hb0 : (x == S.fl.s0) = true:=by rw [beq_iff_eq];exact hs0
     have hb1 : (x != S.fl.s0) = false:=by simp [hs0]
     have HTn2:=Lib.hid (HTn.out true (by rw [hgo,hb0];rfl))
     clear hgo hs0 HBad
     go_wp2_with (go_at_call 19;refine HCl.out.mono ?_;rintro e9 w6 ⟨rfl,hb6⟩;have hb7:=hb6.alloc hb6.size (.cells #[.int .i64 d.flag,.int .i64 d.kind,.bool d.cross,.int .i64 d.first,.int .i64 d.count] 52);have HB7:=Lib.hid (HBy.out.trans (hb7.mono HBy.out.size));have s7 : ((w6.alloc (.cells #[.int .i64 d.flag,.int .i64 d.kind,.bool d.cross,.int .i64 d.first,.int .i64 d.count] 52)).cell? ⟨rf,3,none⟩) = some (.int .i64 S.fl.s0):=(HM.out.below HB7.out).fc 3;clear hb6 hb7)
     go_roundw
     case rel=>exact ⟨q + 1,by omega,by go_num,HB7,HTn2⟩
     case measure=>simp [intOf];omega
    have hb0 : (x == S.fl.s0) = false:=by rw [beq_eq_false_iff_ne];exact hs0
    have hb1 : (x != S.fl.s0) = true:=by simp [hs0]
    rw [hb0,Bool.false_or] at hgo
    clear hs0
    cases is
    ·have HE:=Lib.hid (HBad.out hgo)
     clear hgo HBad HTn
     go_wp2_with (go_at_call 19;refine HCl.out.mono ?_;rintro e9 w6 ⟨rfl,hb6⟩;have hb7:=hb6.alloc hb6.size (.cells #[.int .i64 d.flag,.int .i64 d.kind,.bool d.cross,.int .i64 d.first,.int .i64 d.count] 52);have HB7:=Lib.hid (HBy.out.trans (hb7.mono HBy.out.size));have s7 : ((w6.alloc (.cells #[.int .i64 d.flag,.int .i64 d.kind,.bool d.cross,.int .i64 d.first,.int .i64 d.count] 52)).cell? ⟨rf,3,none⟩) = some (.int .i64 S.fl.s0):=(HM.out.below HB7.out).fc 3;clear hb6 hb7)
     obtain ⟨f12,f6,f7⟩:=HDd.out _ HB7.out
     go_quiet (fail)
     go_wp2_with fail
     go_ret3
     exact .bad HE.out (below_drewN (HB.out.trans ((HM.out.below HB7.out).base.mono HB.out.size)) _)
    rw [Bool.true_and] at hgo
    by_cases hk2 : d.kind = 2
    ·have ek : (d.kind == 2) = true:=by rw [hk2];rfl
     have ek2 : (d.kind != 2) = false:=by rw [hk2];rfl
     have HTn2:=Lib.hid (HTn.out true (by rw [hgo,ek]))
     clear hgo HBad HTn hk2
     go_wp2_with (go_at_call 19;refine HCl.out.mono ?_;rintro e9 w6 ⟨rfl,hb6⟩;have hb7:=hb6.alloc hb6.size (.cells #[.int .i64 d.flag,.int .i64 d.kind,.bool d.cross,.int .i64 d.first,.int .i64 d.count] 52);have HB7:=Lib.hid (HBy.out.trans (hb7.mono HBy.out.size));have s7 : ((w6.alloc (.cells #[.int .i64 d.flag,.int .i64 d.kind,.bool d.cross,.int .i64 d.first,.int .i64 d.count] 52)).cell? ⟨rf,3,none⟩) = some (.int .i64 S.fl.s0):=(HM.out.below HB7.out).fc 3;clear hb6 hb7)
     go_roundw
     case rel=>exact ⟨q + 1,by omega,by go_num,HB7,HTn2⟩
     case measure=>simp [intOf];omega
    have ek : (d.kind == 2) = false:=by rw [beq_eq_false_iff_ne];exact hk2
    have ek2 : (d.kind != 2) = true:=by simp [hk2]
    have HE:=Lib.hid (HBad.out (by rw [hgo,ek]))
    clear hgo HBad HTn hk2
    go_wp2_with (go_at_call 19;refine HCl.out.mono ?_;rintro e9 w6 ⟨rfl,hb6⟩;have hb7:=hb6.alloc hb6.size (.cells #[.int .i64 d.flag,.int .i64 d.kind,.bool d.cross,.int .i64 d.first,.int .i64 d.count] 52);have HB7:=Lib.hid (HBy.out.trans (hb7.mono HBy.out.size));have s7 : ((w6.alloc (.cells #[.int .i64 d.flag,.int .i64 d.kind,.bool d.cross,.int .i64 d.first,.int .i64 d.count] 52)).cell? ⟨rf,3,none⟩) = some (.int .i64 S.fl.s0):=(HM.out.below HB7.out).fc 3;clear hb6 hb7)
    obtain ⟨f12,f6,f7⟩:=HDd.out _ HB7.out
    go_quiet (fail)
    go_wp2_with fail
    go_ret3
    exact .bad HE.out (below_drewN (HB.out.trans ((HM.out.below HB7.out).base.mono HB.out.size)) _)
   obtain rfl : q = r.next.length:=by omega
   have HA : Hid (r.next.all (goesB S.fl) = true):=Lib.hid (by have:=HTk.out;rwa [List.take_of_length_le (Nat.le_refl _)] at this)
   go_wp2_with fail
   go_roundw
   case rel=>exact ⟨m + 1,by omega,by go_num,HBy,Lib.hid (HOk.out.step hlt2 (by rw [HRl.out];exact HA.out))⟩
   case measure=>simp [intOf];omega
  obtain rfl : m = n:=by omega
  have HE:=Lib.hid (okTo.none_ (by rw [HNr.out];exact HOk.out))
  go_wp2_with fail
  go_ret3
  refine .good (by rw [HAff.out,HRe.out,affEnd,HE.out]) (HB.out.trans ((HM.out.below HBz.out).base.mono HB.out.size)) (HM.out.below HBz.out).fileAt HBd.out.flOk HRf.out
 obtain ⟨g,rfl⟩ : ∃ g,gk = g + 1:=⟨gk - 1,by rw [hrows] at hg;simp at hg;omega⟩
 have hg2 : rest.length ≤ g:=by rw [hrows] at hg;simpa using hg
 have HRs : Hid (R = match stepR EE S l row rest with
  | .error e=>.error e
  | .ok S'=>readGo EE g S'):=Lib.hid (by rw [← HGo.out,readGo,hrows];rfl)
 obtain ⟨gr,orr,cr,fv,hvr,halt,hcr,e0,e1,hrd⟩:=rows_at HRows2.out (hpa.at_ hrows)
 rw [HNn.out] at hvr halt hcr
 cases hvr
 have HF1:=Lib.hid (rowF1_of hbd hrows hrd)
 have hne : row ≠ []:=(hbd.row (l,row) (by rw [hrows];simp)).1
 have hpos : 0 < row.length:=List.length_pos_iff.2 hne
 have hrwl : row.length ≤ 65536:=HF1.out.len
 have HTk:=Lib.hid (hbd.take hrows)
 have HPn:=Lib.hid (hpa.next (l:=l) hrows)
 have HM:=Lib.hid hqm
 obtain ⟨fg,fo,fc,rfl,hfc,fcells⟩:=HF1.out.cells hpos
 have d0:=(hqm.base.cell (World.block_lt_of_cell? w2 _ e0)).trans e0
 have d1:=(hqm.base.cell (World.block_lt_of_cell? w2 _ e1)).trans e1
 have ha0 : (0 : Int) ≤ (a : Int):=by omega
 have hai : (a : Int) < (N : Int):=by omega
 have hwa : IntKind.i64.wrap ((a : Int) + 1) = ((a + 1 : Nat) : Int):=by rw [IntKind.wrap_i64];omega
 have z5:=hqm.rz 5
 have c5:=hqm.r5
 have HFC:=Lib.hid fcells
 clear hrows hbd hpa hqm hrd hne fcells e0 e1 hg
 go_upto_region 9 with fail
 have HMy:=Lib.hid (HM.out.setLine l)
 have HGy : Hid (Go2 L wr L (wr.setCell ⟨rr,5,none⟩ (.int .i64 l))):=Lib.hid ⟨set_kept' HM.out.rrL,fun _ h=>.inl h⟩
 generalize wr.setCell ⟨rr,5,none⟩ (.int .i64 l) = wy at HMy HGy ⊢
 clear c2 c5 z5 d0 d1
 have c2:=HMy.out.r2
 have z2:=HMy.out.rz 2
 have HMz : Hid (QM w2 (wy.setCell ⟨rr,2,none⟩ (.int .i64 ((a : Int) + 1))) L rr rf v EE all (a + 1) { S with line:=l,rows:=rest }):=Lib.hid (HMy.out.setAt (a + 1) rest)
 go_upto_region 10 with fail
 generalize wy.setCell ⟨rr,2,none⟩ (.int .i64 ((a : Int) + 1)) = wz at HMz ⊢
 clear c2 z2 HMy HGy hwa ha0 hai
 have HFz : Hid (∀ W,Below wz.heap.size wz W → W.cell? ⟨fg,fo,none⟩ = some (.string (fieldAt row 0))):=Lib.hid (fun W hb=>by
  have:=field_in (HFC.out 0 hpos) (HMz.out.below hb).base
  rwa [Nat.add_zero] at this)
 have f0:=HFz.out wz (Below.refl _ _)
 have HF0 : Hid (∀ W,Below w2.heap.size w2 W → W.cell? ⟨fg,fo,none⟩ = some (.string (fieldAt row 0))):=Lib.hid (fun W hb=>by
  have:=field_in (HFC.out 0 hpos) hb
  rwa [Nat.add_zero] at this)
 have HBe : Hid (∀ W,Below wz.heap.size wz W → Below w.heap.size w W ∧ W.cell? ⟨rr,5,none⟩ = some (.int .i64 l)):=Lib.hid (fun W hb=>⟨HB.out.trans ((HMz.out.below hb).base.mono HB.out.size),(HMz.out.below hb).r5⟩)
 have c5:=(HBe.out wz (Below.refl _ _)).2
 have HWd:=Lib.hid (so_qwidth (fieldAt row 0) wz)
 by_cases hk13 : keyN (fieldAt row 0) = 13
 ·have HX : Hid (affR s.data.toList = .error (l,110)):=Lib.hid (by rw [HAff.out,HRs.out,stepR,if_pos hk13];rfl)
  rw [wdQ_no hk13] at HWd
  clear hk13
  go_wp2_with (go_at_call 43;refine HWd.out.mono ?_;rintro e9 w9 ⟨rfl,rfl⟩)
  go_quiet (fail)
  go_wp2_with fail
  go_ret3
  exact .bad HX.out (HBe.out _ (below_drewN (Below.refl _ _) _)).1
 obtain ⟨k,hk⟩ : ∃ k,keyN (fieldAt row 0) = k:=⟨_,rfl⟩
 have hkl : k < 13:=by have:=keyN_le (fieldAt row 0);omega
 rw [wdQ_key hk hkl] at HWd
 have HK:=Lib.hid hk
 obtain ⟨wd,hwd⟩ : ∃ n : Nat,widthN k = n:=⟨_,rfl⟩
 have HW:=Lib.hid hwd
 have hw24 : wd = 2 ∨ wd = 4:=by rcases widthN_of k with h | h <;> omega
 rw [hwd] at HWd
 have hk13':=Lib.hid hk13
 clear hk hwd hk13
 by_cases hlw : row.length = wd
 ·have HLw:=Lib.hid hlw
  have hlw1 : ((row.length : Int) == (wd : Int)) = true:=by rw [hlw,beq_self_eq_true]
  have hlw2 : ((row.length : Int) != (wd : Int)) = false:=by rw [hlw];simp
  have c4:=HMz.out.r4
  have hhl : S.heads.length ≤ 65536:=by have:=HRQ.out.1.heads;omega
  have HSt : Hid (Calls Tryz.prog 44 #[.pointer (some ⟨rr,0,none⟩),.string (fieldAt row 0)] wz fun e w'=>e = .returned (.bool (S.heads.contains (fieldAt row 0))) ∧ wz = w'):=Lib.hid (so_qstood rr v.heads S.heads (fieldAt row 0) wz c4 (Rd.of_own HMz.out.heads.1) hhl)
  obtain ⟨b,hb⟩ : ∃ b,S.heads.contains (fieldAt row 0) = b:=⟨_,rfl⟩
  rw [hb] at HSt
  have HBb:=Lib.hid hb
  clear hlw c4 hhl hb
  by_cases htw : wd = 2 ∧ b = true
  ·have HX : Hid (affR s.data.toList = .error (l,112)):=Lib.hid (by
    rw [HAff.out,HRs.out,stepR,if_neg hk13'.out,HK.out,HW.out,if_neg (by rw [HLw.out];simp),if_pos ⟨htw.1,by rw [HBb.out];exact htw.2⟩];rfl)
   obtain ⟨rfl,rfl⟩:=htw
   go_wp2_with (first | (go_at_call 43;refine HWd.out.mono ?_;rintro e9 w9 ⟨rfl,rfl⟩) | (go_at_call 44;refine HSt.out.mono ?_;rintro e8 w8 ⟨rfl,rfl⟩))
   go_quiet (fail)
   go_wp2_with fail
   go_ret3
   exact .bad HX.out (HBe.out _ (below_drewN (Below.refl _ _) _)).1
  have HRt : Hid (R = match headR EE { S with rows:=rest,line:=l } row k with
   | .error e=>.error e
   | .ok S'=>readGo EE g { S' with heads:=S'.heads ++ [fieldAt row 0] }):=Lib.hid (by
   rw [HRs.out,stepR,if_neg hk13'.out,HK.out,HW.out,if_neg (by rw [HLw.out];simp),if_neg (by rw [HBb.out];exact htw)]
   cases headR EE { S with rows:=rest,line:=l } row k <;> rfl)
  have HHd : Hid (Calls Tryz.prog 45 #[.pointer (some ⟨rr,0,none⟩),.slice (some ⟨fg,fo,none⟩) row.length fc] wz (GrpQ w2 L rr rf EE all 1 0 (headR EE { S with rows:=rest,line:=l } row k) wz)):=Lib.hid (so_qheading w2 L rr rf EE all 1 0 { S with rows:=rest,line:=l } _ row wz ⟨HTk.out,v,a + 1,HPn.out,HMz.out⟩ HF1.out k HK.out hkl (by rw [HLw.out,HW.out]) (by rw [HNn.out];exact hN2))
  have htw2 : wd = 2 ∧ b = false ∨ wd = 4:=by
   rcases hw24 with h | h
   ·exact .inl ⟨h,by cases b;rfl;exact absurd ⟨h,rfl⟩ htw⟩
   exact .inr h
  clear htw hw24
  go_upto_region 11 with (go_at_call 43;refine HWd.out.mono ?_;rintro e9 w9 ⟨rfl,rfl⟩)
  have hwd0 : ((wd : Int) == 0) = false:=by rw [beq_eq_false_iff_ne];omega
  go_upto_region 16 with (go_at_call 44;refine HSt.out.mono ?_;rintro e8 w8 ⟨rfl,rfl⟩)
  go_cut [97] from 93 to 97 (fun p W=>p = .bool false ∧ W = wz)
  case first =>
   rcases htw2 with ⟨rfl,rfl⟩ | rfl
   all_goals go_wp2_with fail
   all_goals go_meet
   all_goals exact ⟨rfl,rfl⟩
  case rest =>
  obtain ⟨rfl,hwz⟩:=hcut
  rw [hwz]
  clear hwz wc
  obtain ⟨H,hH⟩ : ∃ H,headR EE { S with rows:=rest,line:=l } row k = H:=⟨_,rfl⟩
  have HHe:=Lib.hid hH
  rw [hH] at HHd HRt
  clear hH htw2
  cases H with
  | error p =>
   obtain ⟨l',c⟩:=p
   have HX : Hid (affR s.data.toList = .error (l',c)):=Lib.hid (by rw [HAff.out,HRt.out];rfl)
   unfold GrpQ at HHd
   clear HRt HHe
   go_upto_region 20 with (go_at_call 45;refine HHd.out.mono ?_;rintro e5 w5 ⟨L5,hg5,hc0,rfl,hl5⟩;have HB5 : Hid (Below w.heap.size w w5):=Lib.hid (HB.out.trans ((HMz.out.base.trans (hg5.1.below HMz.out.base.size (fun x hx=>(HMz.out.hl x hx).1))).mono HB.out.size));have hc1 : (c != 0) = true:=by { simpa using hc0 };clear hg5 hc0)
   go_quiet (fail)
   go_wp2_with fail
   go_ret3
   exact .bad HX.out (below_drewN HB5.out _)
  | ok S3 =>
   have HRw : Hid (S3.rows.length ≤ g):=Lib.hid (Nat.le_trans (head_rows HHe.out) hg2)
   unfold GrpQ at HHd
   go_upto_region 21 with (go_at_call 45;refine HHd.out.mono ?_;rintro e5 w5 ⟨L5,hg5,rfl,hq5⟩;have HQ5:=Lib.hid hq5;clear hg5 hq5)
   obtain ⟨hbd5,v5,a5,hpa5,hm5⟩:=HQ5.out
   have HBd5:=Lib.hid hbd5
   have HPa5:=Lib.hid hpa5
   have HM5:=Lib.hid hm5
   obtain ⟨A4,cp4,hv4⟩:=own_slice hm5.heads.1
   have HV4:=Lib.hid hv4
   obtain ⟨nh,hnh⟩ : ∃ n,S3.heads.length = n:=⟨_,rfl⟩
   have hnh2 : nh ≤ 65536:=by rw [← hnh];have:=hbd5.heads;omega
   have HNh:=Lib.hid hnh
   have c4 : w5.cell? ⟨rr,4,none⟩ = some (.slice A4 nh cp4):=by rw [hm5.r4,hv4,hnh]
   have hrr5:=World.block_lt_of_cell? _ _ c4
   have f5:=field_in (HFC.out 0 hpos) hm5.base
   rw [Nat.add_zero] at f5
   have hfg5:=World.block_lt_of_cell? _ _ f5
   have z4:=hm5.rz 4
   have HOc : Hid (∀ W,Below w5.heap.size w5 W → W.cell? ⟨rr,4,none⟩ = some (.slice A4 nh cp4) ∧ W.ownsRow 0 9 1 (.slice A4 nh cp4) nh (strV S3.heads)):=Lib.hid (fun W hW=>⟨by rw [(HM5.out.below hW).r4,HV4.out,HNh.out],by
    have:=(HM5.out.below hW).heads.1
    rw [HV4.out,HNh.out] at this;exact this⟩)
   have HPu : Hid (∀ W,Below w5.heap.size w5 W → ∀ W9 g9 cap9,W9.ownsRow 0 9 1 (.slice (some ⟨g9,0,none⟩) (nh + 1) cap9) (nh + 1) (strV S3.heads ++ [.string (fieldAt row 0)]) → W.grownBy W9 (Value.slice A4 nh cp4).ownBlock → LocP W W9 (.slice A4 nh cp4) (.slice (some ⟨g9,0,none⟩) (nh + 1) cap9) →
     ∃ L',QM w2 (W9.setCell ⟨rr,4,none⟩ (.slice (some ⟨g9,0,none⟩) (nh + 1) cap9)) L' rr rf { v5 with heads:=.slice (some ⟨g9,0,none⟩) (nh + 1) cap9 } EE all a5 { S3 with heads:=S3.heads ++ [fieldAt row 0] }):=Lib.hid (fun W hW W9 g9 cap9 hown hg hloc=>by
    rw [← HNh.out] at hown hg hloc ⊢
    rw [← HV4.out] at hg hloc
    obtain ⟨L',hG,hM⟩:=(HM5.out.below hW).push_heads (fieldAt row 0) hg hloc hown
    exact ⟨L',hM⟩)
   have HFg : Hid (∀ W,Below w5.heap.size w5 W → ∀ W9,W.grownBy W9 (Value.slice A4 nh cp4).ownBlock → W9.cell? ⟨rr,4,none⟩ = some (.slice A4 nh cp4) ∧ W9.frozen? ⟨rr,4,none⟩ = false ∧ W9.cell? ⟨fg,fo,none⟩ = some (.string (fieldAt row 0))):=Lib.hid (fun W hW W9 hg=>by
    rw [← HNh.out,← HV4.out] at hg
    have hf:=(HM5.out.below hW).rdr_grown hg (HM5.out.below hW).ty_heads (by decide)
    refine ⟨by rw [Lib.cell_of_heap hf,← HNh.out,← HV4.out];rfl,Lib.frozen_of_heap hf 4,?_⟩
    have hbs:=(HM5.out.below hW).grown_base hg (HM5.out.below hW).heads.2
    have:=field_in (HFC.out 0 hpos) hbs
    rwa [Nat.add_zero] at this)
   have HHs : Hid ((fieldAt row 0).size ≤ 65536):=Lib.hid (fieldAt_le HF1.out.each 0)
   clear hbd5 hpa5 hm5 hv4 hnh f0 c5 HQ5
   refine wp_region_held_drew (S:=fun W=>W.cell? ⟨fg,fo,none⟩ = some (.string (fieldAt row 0))) (by kernel_rfl) ?_ (fun hHeld=>?_)
   ·exact (drew_below.cell hfg5).trans f5
   refine tkA 0 (some 112) hHeld ?_;try simp only [put_norm]
   refine tkA 1 (some 113) hHeld ?_;try simp only [put_norm]
   refine tkA 2 (some 114) hHeld ?_;try simp only [put_norm]
   refine tkA 3 (some 115) hHeld ?_;try simp only [put_norm]
   refine tkA 5 (some 117) hHeld ?_;try simp only [put_norm]
   refine tkA 6 (some 118) hHeld ?_;try simp only [put_norm]
   refine tkA 7 (some 119) hHeld ?_;try simp only [put_norm]
   refine wpAnyH_ready (rs:=[4,8]) (by kernel_rfl) (by simp) ?_
   refine AllReadyH.cons rfl (fun K hK=>?_) ?_
   ·go_simp
    refine hK.out _ _ ?_ (fun hHeld=>?_)
    ·first | exact (drew_below.cell hfg5).trans f5 | exact ((drew_below.alloc (Nat.le_refl _) _).cell hfg5).trans f5 | exact R9 | exact HF0.out _ HMF.out.base
    clear hK K
    refine rdy1 8 (fun K hK=>?_)
    go_simp
    refine hK.out _ _ ?_ (fun hHeld=>?_)
    ·first | exact (drew_below.cell hfg5).trans f5 | exact ((drew_below.alloc (Nat.le_refl _) _).cell hfg5).trans f5 | exact R9 | exact HF0.out _ HMF.out.base
    clear hK K
    refine rdy1 9 (fun K hK=>?_)
    refine step_pushL (w:=w5.drew) (by rfl) _ _ 65 (by rfl) 0 9 i0 _ 1 16 Tryz.underlying65 hi hz0 hz1 hz2 rfl (by decide) (.slice A4 nh cp4) nh (strV S3.heads) (by rfl) (HOc.out _ drew_below).2 #[.string (fieldAt row 0)] (by rfl) (by intro x hx;simp at hx;rcases hx with rfl;rfl) (by rfl) (by unfold maxLen;omega) (by omega) (Nat.zero_le _) ?_
    intro gg cc w9 hown hg9 hloc
    obtain ⟨L9,hM9⟩:=HPu.out _ drew_below _ _ _ hown hg9 hloc
    have HMF:=Lib.hid hM9
    obtain ⟨c9'',z9,R9⟩:=HFg.out _ drew_below _ hg9
    clear hown hg9 hloc hM9
    refine hK.out _ _ ?_ (fun hHeld=>?_)
    ·exact R9
    clear hK K
    refine tkA 10 (some 122) hHeld ?_;try simp only [put_norm]
    refine tkA 11 (some 123) hHeld ?_;try simp only [put_norm]
    refine rdy1 12 (fun K hK=>?_)
    go_simp
    refine hK.out _ _ ?_ (fun hHeld=>?_)
    ·first | exact (drew_below.cell hfg5).trans f5 | exact ((drew_below.alloc (Nat.le_refl _) _).cell hfg5).trans f5 | exact R9 | exact HF0.out _ HMF.out.base
    clear hK K
    refine wpAnyH_done (by kernel_rfl) ?_ _
    go_wp2_with fail
    go_roundg g
    case measure=>omega
    case rel=>exact ⟨{ S3 with heads:=S3.heads ++ [fieldAt row 0] },L9,HRw.out,Lib.hid ⟨HBd5.out.pushHead (fieldAt row 0) HHs.out,_,a5,HPa5.out,HMF.out⟩,Lib.hid HRt.out.symm⟩
   refine AllReadyH.cons rfl (fun K hK=>?_) ?_
   ·go_simp
    refine hK.out _ _ ?_ (fun hHeld=>?_)
    ·first | exact (drew_below.cell hfg5).trans f5 | exact ((drew_below.alloc (Nat.le_refl _) _).cell hfg5).trans f5 | exact R9 | exact HF0.out _ HMF.out.base
    clear hK K
    refine rdy1 4 (fun K hK=>?_)
    go_simp
    refine hK.out _ _ ?_ (fun hHeld=>?_)
    ·first | exact (drew_below.cell hfg5).trans f5 | exact ((drew_below.alloc (Nat.le_refl _) _).cell hfg5).trans f5 | exact R9 | exact HF0.out _ HMF.out.base
    clear hK K
    refine rdy1 9 (fun K hK=>?_)
    refine step_pushL (w:=w5.drew) (by rfl) _ _ 65 (by rfl) 0 9 i0 _ 1 16 Tryz.underlying65 hi hz0 hz1 hz2 rfl (by decide) (.slice A4 nh cp4) nh (strV S3.heads) (by rfl) (HOc.out _ drew_below).2 #[.string (fieldAt row 0)] (by rfl) (by intro x hx;simp at hx;rcases hx with rfl;rfl) (by rfl) (by unfold maxLen;omega) (by omega) (Nat.zero_le _) ?_
    intro gg cc w9 hown hg9 hloc
    obtain ⟨L9,hM9⟩:=HPu.out _ drew_below _ _ _ hown hg9 hloc
    have HMF:=Lib.hid hM9
    obtain ⟨c9'',z9,R9⟩:=HFg.out _ drew_below _ hg9
    clear hown hg9 hloc hM9
    refine hK.out _ _ ?_ (fun hHeld=>?_)
    ·exact R9
    clear hK K
    refine tkA 10 (some 122) hHeld ?_;try simp only [put_norm]
    refine tkA 11 (some 123) hHeld ?_;try simp only [put_norm]
    refine rdy1 12 (fun K hK=>?_)
    go_simp
    refine hK.out _ _ ?_ (fun hHeld=>?_)
    ·first | exact (drew_below.cell hfg5).trans f5 | exact ((drew_below.alloc (Nat.le_refl _) _).cell hfg5).trans f5 | exact R9 | exact HF0.out _ HMF.out.base
    clear hK K
    refine wpAnyH_done (by kernel_rfl) ?_ _
    go_wp2_with fail
    go_roundg g
    case measure=>omega
    case rel=>exact ⟨{ S3 with heads:=S3.heads ++ [fieldAt row 0] },L9,HRw.out,Lib.hid ⟨HBd5.out.pushHead (fieldAt row 0) HHs.out,_,a5,HPa5.out,HMF.out⟩,Lib.hid HRt.out.symm⟩
   exact AllReadyH.nil
 have HX : Hid (affR s.data.toList = .error (l,111)):=Lib.hid (by rw [HAff.out,HRs.out,stepR,if_neg hk13'.out,HK.out,HW.out,if_pos hlw];rfl)
 have hlw1 : ((row.length : Int) == (wd : Int)) = false:=by rw [beq_eq_false_iff_ne];omega
 have hlw2 : ((row.length : Int) != (wd : Int)) = true:=by simp;omega
 have hwd0 : ((wd : Int) == 0) = false:=by rw [beq_eq_false_iff_ne];omega
 clear hlw hw24
 go_wp2_with (go_at_call 43;refine HWd.out.mono ?_;rintro e9 w9 ⟨rfl,rfl⟩)
 go_quiet (fail)
 go_wp2_with fail
 go_ret3
 exact .bad HX.out (HBe.out _ (below_drewN (Below.refl _ _) _)).1
end Go.Proofs.YtkdajhmlhjkcdaaGreatDoor
namespace Go.Proofs.YtkdajhmlhjkcdaaGreatDoor
open Go.RowKit Go.Maps
def RfOk (F : Fl) : Prop:=∀ r ∈ F.rls,0 ≤ r.flag ∧ r.flag ≤ 65535
theorem group_inv {P : Fl → Prop} {end_ : Int} {ok : List ByteArray → Bool} {inn : Fl → Int → List ByteArray → Except Int Fl} (hi : ∀ F l r F',P F → inn F l r = .ok F' → P F') : ∀ (n : Nat) (S S' : Sx),P S.fl → groupR end_ ok inn n S = .ok S' → P S'.fl
 | 0,S,S',h0,h=>by rw [groupR] at h;cases h;exact h0
 | n + 1,S,S',h0,h=>by
   rw [groupR] at h
   split at h
   ·cases h
   ·split at h
    ·split at h
     ·cases h
     ·rename_i hF
      exact group_inv hi n _ S' (hi _ _ _ _ h0 hF) h
    ·cases h
theorem ruleIn_rf {c : Cl} (hc : 0 ≤ c.flag ∧ c.flag ≤ 65535) (F : Fl) (l : Int) (r : List ByteArray) (F' : Fl) (h0 : RfOk F) (h : ruleIn c F l r = .ok F') : RfOk F':=by
 unfold ruleIn at h
 split at h
 ·cases h
 rename_i x hx
 cases h
 obtain ⟨s,a,k,n,rfl⟩:=ruleR_same hx
 intro y hy
 rcases List.mem_append.1 hy with hy | hy
 ·exact h0 y hy
 simp at hy;subst hy;exact hc
theorem rep_rf (F : Fl) (l : Int) (r : List ByteArray) (F' : Fl) (h0 : RfOk F) (h : repR_ F l r = .ok F') : RfOk F':=by
 unfold repR_ at h
 split at h
 ·cases h
 split at h
 ·cases h
 split at h
 ·cases h
 cases h;exact h0
theorem alias_rf (F : Fl) (l : Int) (r : List ByteArray) (F' : Fl) (h0 : RfOk F) (h : aliasR F l r = .ok F') : RfOk F':=by
 unfold aliasR at h
 split at h
 ·cases h
 split at h
 ·cases h
 cases h;exact h0
theorem head_rf {end_ : Int} {S S' : Sx} {row : List ByteArray} {k : Nat} (h0 : RfOk S.fl) (h : headR end_ S row k = .ok S') : RfOk S'.fl:=by
 unfold headR at h
 split at h
 ·obtain ⟨F,hF,rfl⟩:=onFl_ok h
  unfold kindR at hF
  split at hF
  ·cases hF
  split at hF
  ·cases hF
  cases hF;exact h0
 split at h
 ·obtain ⟨F,hF,rfl⟩:=onFl_ok h
  unfold setR at hF
  split at hF
  ·cases hF
  cases hF;exact h0
 split at h
 ·obtain ⟨F,hF,rfl⟩:=onFl_ok h
  unfold tryR at hF
  split at hF
  ·cases hF
  cases hF;exact h0
 split at h
 ·obtain ⟨F,hF,rfl⟩:=onFl_ok h
  unfold specialR at hF
  split at hF
  ·cases hF
  cases hF
  show RfOk (setSp _ _ _)
  unfold RfOk
  rw [(setSp_rest _ _ _).2.2.2.1]
  exact h0
 split at h
 ·obtain ⟨F,hF,rfl⟩:=onFl_ok h
  unfold leastR at hF
  split at hF
  ·cases hF
  cases hF;exact h0
 split at h
 ·unfold repsG at h
  split at h
  ·cases h
  exact group_inv rep_rf _ _ _ h0 h
 split at h
 ·unfold aliasG at h
  split at h
  ·cases h
  split at h
  ·cases h
  exact group_inv alias_rf _ _ _ h0 h
 unfold classR at h
 split at h
 ·cases h
 rename_i f hf
 obtain ⟨f1,f2,f3,-⟩:=freshR_ok hf
 split at h
 ·cases h
 split at h
 ·cases h
 split at h
 ·cases h
 refine group_inv (P:=RfOk) ?_ _ _ _ ?_ h
 ·exact fun F l r F' h1 h2=>ruleIn_rf ⟨f2,f3⟩ F l r F' h1 h2
 exact h0
theorem read_rf {end_ : Int} : ∀ (n : Nat) (S S' : Sx),RfOk S.fl → readGo end_ n S = .ok S' → RfOk S'.fl
 | 0,S,S',h0,h=>by rw [readGo] at h;cases h;exact h0
 | n + 1,S,S',h0,h=>by
   rw [readGo] at h
   split at h
   ·cases h;exact h0
   ·split at h
    ·cases h
    ·rename_i hs
     refine read_rf n _ S' ?_ h
     unfold stepR at hs
     split at hs
     ·cases hs
     split at hs
     ·cases hs
     split at hs
     ·cases hs
     split at hs
     ·cases hs
     ·rename_i S3 hh
      cases hs
      have h2 : RfOk S3.fl:=by
       refine head_rf ?_ hh
       exact h0
      exact h2
theorem affR_rf {l : List UInt8} {F : Fl} (h : affR l = .ok F) : RfOk F:=by
 unfold affR at h
 split at h
 ·cases h
 split at h
 ·cases h
 rename_i hr
 split at h
 ·cases h
 cases h
 exact read_rf _ _ _ (by intro r hr;cases hr) hr
def AffR (w : World) (F : Fl) (a : AV) : Prop:=Rd w 2 a.reps F.reps.length (repCells F.reps) ∧ (∃ us : List Value,Rd w 1 a.als F.als.length us ∧ us.length = F.als.length ∧ ∀ (k : Nat) u b,us[k]? = some u → F.als[k]? = some b → FS w u b) ∧
 Rd w 5 a.cls F.cls.length (clsCells F.cls) ∧ ∃ rs : List (Rl × Value),rs.map (·.1) = F.rls ∧ Rd w 7 a.rls rs.length (rlsCells rs) ∧ ∀ r ∈ rs,FS w r.2 r.1.next
theorem AffN.rd {B : Nat} {w : World} {F : Fl} {a : AV} (h : AffN B w F a) : AffR w F a:=by
 obtain ⟨us,h1,h2,h3⟩:=h.als
 obtain ⟨rs,h4,h5,h6⟩:=h.rls
 exact ⟨Rd.of_own h.reps,⟨us,Rd.of_own h1,h2,fun k u b hu hb=>(h3 k u b hu hb).fs⟩,Rd.of_own h.cls,rs,h4,Rd.of_own h5,fun r hr=>(h6 r hr).fs⟩
theorem AffR.keep {w w' : World} {F : Fl} {a : AV} (h : AffR w F a) (hb : Below w.heap.size w w') : AffR w' F a:=by
 obtain ⟨h0,⟨us,h1,h2,h3⟩,h4,rs,h5,h6,h7⟩:=h
 exact ⟨h0.keep hb,⟨us,h1.keep hb,h2,fun k u b hu hb'=>(h3 k u b hu hb').keep hb⟩,h4.keep hb,rs,h5,h6.keep hb,fun r hr=>(h7 r hr).keep hb⟩
set_option maxHeartbeats 2000000 in
set_option maxRecDepth 100000 in
theorem so_lsame (v u : Value) (zs : List Int) (w : World) (h : FS w v zs) (hu : IS w u zs) (hb : ∀ x ∈ zs,0 ≤ x ∧ x ≤ 65535) (hbig : zs.length ≤ 1048576) :
  Calls Tryz.prog 23 #[v,u] w fun e w'=>e = .returned (.bool true) ∧ ∃ n,w' = w.drewN n:=by
 obtain ⟨p,c,rfl,hcap,hs⟩:=h
 obtain ⟨p2,c2,rfl,hcap2,hs2⟩:=hu
 have hA:=Lib.hid hs
 have hB:=Lib.hid hs2
 have hBd:=Lib.hid hb
 clear hs hs2 hb
 go_enter Tryz.func23,Tryz.ntmps23
 go_wp2_with fail
 go_loopw [5,13] (fun _ i wr=>∃ k m : Nat,k ≤ zs.length ∧ i = .int .i64 k ∧ wr = w.drewN m) (fun _ i _=>zs.length - (intOf i).toNat)
 case atStart=>exact ⟨0,0,Nat.zero_le _,rfl,rfl⟩
 case round =>
 obtain ⟨k,m,hk,rfl,rfl⟩:=hrel
 by_cases hlt : k < zs.length
 ·obtain ⟨b,off,rfl,hc⟩:=hA.out.resolve_left (by omega)
  obtain ⟨b2,off2,rfl,hc2⟩:=hB.out.resolve_left (by omega)
  have c1:=hc k hlt
  have c2':=hc2 k hlt
  clear hc hc2
  have he : zs.getD k 0 = zs[k]:=by simp [List.getD,hlt]
  obtain ⟨x0,x1⟩:=hBd.out zs[k] (List.getElem_mem hlt)
  rw [he] at c1 c2'
  generalize zs[k] = x at *
  have hwx : IntKind.i64.wrap x = x:=by rw [IntKind.wrap_i64];omega
  clear he
  go_wp2_with fail
  go_quiet (fail)
  go_wp2_with fail
  go_roundw
  case rel=>exact ⟨k + 1,_,by omega,by go_num,rfl⟩
  case measure=>simp [intOf];omega
 obtain rfl : k = zs.length:=by omega
 go_wp2_with fail
 go_ret
 exact ⟨rfl,_,rfl⟩
set_option maxHeartbeats 2000000 in
set_option maxRecDepth 100000 in
theorem so_sameClass (c : Cl) (w : World) (hc : 0 ≤ c.flag ∧ c.flag ≤ 65535) :
  Calls Tryz.prog 20 #[.agg #[.int .u16 c.flag,.int .i64 c.kind,.bool c.cross,.int .i64 c.first,.int .i64 c.count],.agg #[.int .i64 c.flag,.int .i64 c.kind,.bool c.cross,.int .i64 c.first,.int .i64 c.count]] w fun e w'=>e = .returned (.bool true) ∧ Below w.heap.size w w':=by
 obtain ⟨fl,k,cr,fi,ct⟩:=c
 dsimp only at *
 obtain ⟨x0,x1⟩:=hc
 have hwx : IntKind.i64.wrap fl = fl:=by rw [IntKind.wrap_i64];omega
 go_enter Tryz.func20,Tryz.ntmps20
 go_wp2_with fail
 go_ret
 exact ⟨by simp,((Below.refl _ _).alloc (Nat.le_refl _) _).alloc (by simp) _⟩
set_option maxHeartbeats 2000000 in
set_option maxRecDepth 100000 in
theorem so_sameRule (r : Rl) (nv nu : Value) (w : World) (hr : 0 ≤ r.flag ∧ r.flag ≤ 65535) (h : FS w nv r.next) (hu : IS w nu r.next) (hb : ∀ x ∈ r.next,0 ≤ x ∧ x ≤ 65535) (hbig : r.next.length ≤ 1048576) :
  Calls Tryz.prog 46 #[.agg #[.int .i64 r.kind,.int .u16 r.flag,.bool r.cross,.string r.strip,.string r.add,.string r.cond,nv],.agg #[.int .i64 r.kind,.int .i64 r.flag,.bool r.cross,.string r.strip,.string r.add,.string r.cond,nu,.int .i64 r.line]] w fun e w'=>e = .returned (.bool true) ∧ Below w.heap.size w w':=by
 have HS : Hid (∀ W,Below w.heap.size w W → Calls Tryz.prog 23 #[nv,nu] W fun e w'=>e = .returned (.bool true) ∧ ∃ n,w' = W.drewN n):=Lib.hid (fun W hW=>so_lsame nv nu r.next W (h.keep hW) (hu.keep hW) hb hbig)
 obtain ⟨p,c,rfl,-⟩:=h
 obtain ⟨p2,c2,rfl,-⟩:=hu
 obtain ⟨k,fl,cr,st,ad,cd,nx,ln⟩:=r
 dsimp only at *
 obtain ⟨x0,x1⟩:=hr
 have hwx : IntKind.i64.wrap fl = fl:=by rw [IntKind.wrap_i64];omega
 clear hb
 go_enter Tryz.func46,Tryz.ntmps46
 go_wp2_with (go_at_call 23;refine (HS.out _ (((Below.refl _ _).alloc (Nat.le_refl _) _).alloc (by simp) _)).mono ?_;rintro e w5 ⟨rfl,n,hw5⟩;have HW5:=Lib.hid hw5;clear hw5)
 go_ret
 exact ⟨by simp,by rw [HW5.out];exact below_drewN (((Below.refl _ _).alloc (Nat.le_refl _) _).alloc (by simp) _) _⟩
end Go.Proofs.YtkdajhmlhjkcdaaGreatDoor
