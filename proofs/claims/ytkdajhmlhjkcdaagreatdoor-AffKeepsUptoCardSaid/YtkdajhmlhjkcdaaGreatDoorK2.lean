/-
 Parts of the proof: AL4, AL19, AL5, AL6, AL7, AL8, AL12, AL6w, FR5, AL20.
-/
import Derived.BigQuiet
import Derived.Test.YtkdajhmlhjkcdaaGreatDoorRows
import Derived.Test.YtkdajhmlhjkcdaaGreatDoorK1
import Derived.WalkLawsBesides
import Derived.Test.YtkdajhmlhjkcdaaGreatDoorM3
import Derived.Deep.QuietTactic
import Derived.Deep.RegionWith
set_option linter.unusedVariables false
set_option linter.unusedSimpArgs false
namespace Go.Proofs.YtkdajhmlhjkcdaaGreatDoor
open Go.RowKit Go.Maps
theorem rep_at : ∀ (rs : List (ByteArray × ByteArray)) (k : Nat) (hk : k < rs.length),(repCells rs)[k * 2]? = some (.string rs[k].1) ∧ (repCells rs)[k * 2 + 1]? = some (.string rs[k].2)
 | [],_,hk=>absurd hk (Nat.not_lt_zero _)
 | c :: r,0,_=>⟨rfl,rfl⟩
 | c :: r,k + 1,hk=>by
   have:=rep_at r k (by simpa using hk)
   have e : repCells (c :: r) = [.string c.1,.string c.2] ++ repCells r:=by simp [repCells]
   have key : ∀ j,(repCells (c :: r))[(k + 1) * 2 + j]? = (repCells r)[k * 2 + j]?:=fun j=>by
    rw [e,List.getElem?_append_right (by simp;omega)]
    congr 1
    simp;omega
   exact ⟨(key 0).trans this.1,(key 1).trans this.2⟩
theorem affA_sp (F : Fl) (a : AV) (n : Nat) (hn : n < 5) : (affA F a)[3 + n]? = some (.int .u16 (spAt F n)):=by
 rcases n with _ | _ | _ | _ | _ | n <;> first | rfl | omega
theorem Rd.at_ {w : World} {size n : Nat} {v : Value} {xs : List Value} (h : Rd w size v n xs) (hn : 0 < n) : ∃ g o cap,v = .slice (some ⟨g,o,none⟩) n cap ∧ ∀ j u,xs[j]? = some u → w.cell? ⟨g,o + j,none⟩ = some u:=by
 obtain ⟨-,A,cap,rfl,-,h2⟩:=h
 obtain ⟨g,o,rfl,h3⟩:=h2.resolve_left (by omega)
 exact ⟨g,o,cap,rfl,h3⟩
set_option maxHeartbeats 8000000 in
set_option maxRecDepth 100000 in
theorem so_sameFile (F : Fl) (a : AV) (rf : Nat) (w : World) (ha : AffR w F a) (hq : QFileAt w rf F) (hok : FlOk F) (hrf : RfOk F) :
  Calls Tryz.prog 15 #[affV F a,.pointer (some ⟨rf,0,none⟩)] w fun e w'=>e = .returned (.bool true) ∧ Below w.heap.size w w':=by
 obtain ⟨qv,hqc,q1,q2,q3,q4⟩:=hq
 obtain ⟨a1,a2,a3,a4⟩:=ha
 have HX : Hid (∀ W,Below (w.alloc (.cells (affA F a) 41)).heap.size (w.alloc (.cells (affA F a) 41)) W → ∀ j,W.cell? ⟨w.heap.size,j,none⟩ = (affA F a)[j]? ∧ W.cell? ⟨rf,j,none⟩ = (qfile qv F)[j]?):=Lib.hid (fun W hW j=>by
  have h1:=heap_alloc_new w (.cells (affA F a) 41)
  have h2:=(((Below.refl _ w).alloc (Nat.le_refl _) (.cells (affA F a) 41)).block _ (block_lt hqc)).trans hqc
  exact ⟨Lib.cell_of_heap ((hW.block _ (block_lt h1)).trans h1) j,Lib.cell_of_heap ((hW.block _ (block_lt h2)).trans h2) j⟩)
 have HB1 : Hid (Below w.heap.size w (w.alloc (.cells (affA F a) 41))):=Lib.hid ((Below.refl _ _).alloc (Nat.le_refl _) _)
 obtain ⟨vr,va,vc,vl⟩:=a
 obtain ⟨u0,ur,ua,uc,ul,uh⟩:=qv
 dsimp only at a1 a2 a3 a4 q1 q2 q3 q4
 have HR1:=Lib.hid a1
 have HR2:=Lib.hid a2
 have HR3:=Lib.hid a3
 have HR4:=Lib.hid a4
 have HQ1:=Lib.hid q1
 have HQ2:=Lib.hid q2
 have HQ3:=Lib.hid q3
 have HQ4:=Lib.hid q4
 obtain ⟨rs,hrs,a4,-⟩:=a4
 obtain ⟨qs,hqs,q4,-⟩:=q4
 have hrn : rs.length = F.rls.length:=by rw [← hrs];simp
 have hqn : qs.length = F.rls.length:=by rw [← hqs];simp
 obtain ⟨us,a2,-⟩:=a2
 obtain ⟨ps,q2,-⟩:=q2
 obtain ⟨-,Ar,kr,rfl,-⟩:=a1
 obtain ⟨-,Aa,ka,rfl,-⟩:=a2
 obtain ⟨-,Ac,kc,rfl,-⟩:=a3
 obtain ⟨-,Al,kl,rfl,-⟩:=a4
 obtain ⟨-,Br,br,rfl,-⟩:=q1
 obtain ⟨-,Ba,ba,rfl,-⟩:=q2
 obtain ⟨-,Bc,bc,rfl,-⟩:=q3
 obtain ⟨-,Bl,bl,rfl,-⟩:=q4
 rw [hrn] at HX HB1 HR4 ⊢
 rw [hqn] at HX HQ4
 have HOk:=Lib.hid hok
 have HRf:=Lib.hid hrf
 obtain ⟨n1,hn1⟩ : ∃ n,F.reps.length = n:=⟨_,rfl⟩
 obtain ⟨n2,hn2⟩ : ∃ n,F.als.length = n:=⟨_,rfl⟩
 obtain ⟨n3,hn3⟩ : ∃ n,F.cls.length = n:=⟨_,rfl⟩
 obtain ⟨n4,hn4⟩ : ∃ n,F.rls.length = n:=⟨_,rfl⟩
 have hb1 : n1 ≤ 65536:=by rw [← hn1];exact hok.reps
 have hb2 : n2 ≤ 65536:=by rw [← hn2];exact hok.als
 have hb3 : n3 ≤ 65536:=by rw [← hn3];exact hok.cls
 have hb4 : n4 ≤ 65536:=by rw [← hn4];exact hok.rls
 rw [hn1,hn2,hn3,hn4] at HX HB1 ⊢
 rw [hn1] at HR1 HQ1
 rw [hn2] at HR2 HQ2
 rw [hn3] at HR3 HQ3
 rw [hn4] at HR4 HQ4
 have HN1:=Lib.hid hn1
 have HN2:=Lib.hid hn2
 have HN3:=Lib.hid hn3
 have HN4:=Lib.hid hn4
 unfold affV affA at *
 unfold qfile at HX
 obtain ⟨w1,hw1⟩ : ∃ W,w.alloc (.cells #[.int .i64 F.kind,.string F.charset,.string F.tryT,.int .u16 F.s0,.int .u16 F.s1,.int .u16 F.s2,.int .u16 F.s3,.int .u16 F.s4,.int .i64 F.least,.slice Ar n1 kr,.slice Aa n2 ka,.slice Ac n3 kc,.slice Al n4 kl] 41) = W:=⟨_,rfl⟩
 rw [hw1] at HX HB1
 have HW1:=Lib.hid hw1
 clear hok hrf hqc hrs hqs hrn hqn hn1 hn2 hn3 hn4 hw1
 go_enter Tryz.func15,Tryz.ntmps15
 go_upto_region 1 with fail
 rw [HW1.out]
 have s0:=HX.out w1 (Below.refl _ _) 0
 have s1:=HX.out w1 (Below.refl _ _) 1
 have s2:=HX.out w1 (Below.refl _ _) 2
 have s8:=HX.out w1 (Below.refl _ _) 8
 have s9:=HX.out w1 (Below.refl _ _) 9
 have s10:=HX.out w1 (Below.refl _ _) 10
 have s11:=HX.out w1 (Below.refl _ _) 11
 have s12:=HX.out w1 (Below.refl _ _) 12
 simp only [List.getElem?_toArray,List.getElem?_cons_zero,List.getElem?_cons_succ] at s0 s1 s2 s8 s9 s10 s11 s12
 obtain ⟨s0,t0⟩:=s0
 obtain ⟨s1,t1⟩:=s1
 obtain ⟨s2,t2⟩:=s2
 obtain ⟨s8,t8⟩:=s8
 obtain ⟨s9,t9⟩:=s9
 obtain ⟨s10,t10⟩:=s10
 obtain ⟨s11,t11⟩:=s11
 obtain ⟨s12,t12⟩:=s12
 go_quiet (fail)
 have HBq : Hid (Below w1.heap.size w1 (w1.drewN nq)):=Lib.hid (below_drewN (Below.refl _ _) _)
 generalize w1.drewN nq = w2 at HBq ⊢
 clear s0 s1 s2 s8 s9 s10 s11 s12 t0 t1 t2 t8 t9 t10 t11 t12
 have s9:=HX.out w2 HBq.out 9
 have s10:=HX.out w2 HBq.out 10
 have s11:=HX.out w2 HBq.out 11
 have s12:=HX.out w2 HBq.out 12
 simp only [List.getElem?_toArray,List.getElem?_cons_zero,List.getElem?_cons_succ] at s9 s10 s11 s12
 obtain ⟨s9,t9⟩:=s9
 obtain ⟨s10,t10⟩:=s10
 obtain ⟨s11,t11⟩:=s11
 obtain ⟨s12,t12⟩:=s12
 go_wp2_with fail
 go_quiet (fail)
 have HBr : Hid (Below w1.heap.size w1 (w2.drewN nq)):=Lib.hid (below_drewN HBq.out _)
 generalize w2.drewN nq = w3 at HBr ⊢
 clear s9 s10 s11 s12 t9 t10 t11 t12 HBq w2
 go_wp2_with fail
 go_loopw [5,86] (fun _ x wr=>∃ k : Nat,k ≤ 5 ∧ x = .int .i64 k ∧ Hid (Below w1.heap.size w1 wr)) (fun _ x _=>5 - (intOf x).toNat)
 case atStart=>exact ⟨0,Nat.zero_le _,rfl,HBr⟩
 case round =>
 obtain ⟨k,hk,rfl,HBk⟩:=hrel
 clear HBr
 by_cases hlt : k < 5
 ·have e1 : wr.cell? ⟨w.heap.size,3 + k,none⟩ = some (.int .u16 (spAt F k)):=by
   rw [(HX.out wr HBk.out (3 + k)).1]
   exact affA_sp F ⟨.slice Ar n1 kr,.slice Aa n2 ka,.slice Ac n3 kc,.slice Al n4 kl⟩ k hlt
  have e2 : wr.cell? ⟨rf,3 + k,none⟩ = some (.int .i64 (spAt F k)):=by
   rw [(HX.out wr HBk.out (3 + k)).2]
   exact qfile_sp ⟨u0,.slice Br n1 br,.slice Ba n2 ba,.slice Bc n3 bc,.slice Bl n4 bl,uh⟩ F k hlt
  obtain ⟨x0,x1⟩:=HOk.out.sp k
  generalize spAt F k = x at *
  have hwx : IntKind.i64.wrap x = x:=by rw [IntKind.wrap_i64];omega
  have hk5 : (k : Int) < 5:=by omega
  go_wp2_with fail
  go_quiet (fail)
  go_wp2_with fail
  go_roundw
  case rel=>exact ⟨k + 1,by omega,by go_num,Lib.hid (below_drewN HBk.out _)⟩
  case measure=>simp [intOf];omega
 obtain rfl : k = 5:=by omega
 have s9:=(HX.out wr HBk.out 9).1
 simp only [List.getElem?_toArray,List.getElem?_cons_zero,List.getElem?_cons_succ] at s9
 go_wp2_with fail
 clear s9
 go_loopw [6,105] (fun _ x wr=>∃ k : Nat,k ≤ n1 ∧ x = .int .i64 k ∧ Hid (Below w1.heap.size w1 wr)) (fun _ x _=>n1 - (intOf x).toNat)
 case atStart=>exact ⟨0,Nat.zero_le _,rfl,HBk⟩
 case round =>
 obtain ⟨k,hk,rfl,HBz⟩:=hrel
 clear HBk
 by_cases hlt : k < n1
 ·have hk1 : k < F.reps.length:=by rw [HN1.out];exact hlt
  obtain ⟨g1,o1,cp1,hv1,hc1⟩:=HR1.out.at_ (by omega)
  obtain ⟨g2,o2,cp2,hv2,hc2⟩:=HQ1.out.at_ (by omega)
  cases hv1
  cases hv2
  obtain ⟨y0,y1⟩:=rep_at F.reps k hk1
  have HBw:=HB1.out.trans (HBz.out.mono HB1.out.size)
  have d0:=(HBw.cell (World.block_lt_of_cell? _ _ (hc1 _ _ y0))).trans (hc1 _ _ y0)
  have d1:=(HBw.cell (World.block_lt_of_cell? _ _ (hc1 _ _ y1))).trans (hc1 _ _ y1)
  have f0:=(HBw.cell (World.block_lt_of_cell? _ _ (hc2 _ _ y0))).trans (hc2 _ _ y0)
  have f1:=(HBw.cell (World.block_lt_of_cell? _ _ (hc2 _ _ y1))).trans (hc2 _ _ y1)
  rw [← Nat.add_assoc] at d1 f1
  have s9:=HX.out wr HBz.out 9
  simp only [List.getElem?_toArray,List.getElem?_cons_zero,List.getElem?_cons_succ] at s9
  obtain ⟨s9,t9⟩:=s9
  have hkn : (k : Int) < (n1 : Int):=by omega
  clear hc1 hc2 y0 y1 HBw
  generalize F.reps[k] = p at *
  go_wp2_with fail
  go_quiet (fail)
  go_wp2_with fail
  go_roundw
  case rel=>exact ⟨k + 1,by omega,by go_num,Lib.hid (below_drewN HBz.out _)⟩
  case measure=>simp [intOf];omega
 obtain rfl : k = n1:=by omega
 have s10:=(HX.out wr HBz.out 10).1
 simp only [List.getElem?_toArray,List.getElem?_cons_zero,List.getElem?_cons_succ] at s10
 go_wp2_with fail
 clear s10
 go_loopw [7,144] (fun _ x wr=>∃ k : Nat,k ≤ n2 ∧ x = .int .i64 k ∧ Hid (Below w1.heap.size w1 wr)) (fun _ x _=>n2 - (intOf x).toNat)
 case atStart=>exact ⟨0,Nat.zero_le _,rfl,HBz⟩
 case round =>
 obtain ⟨j,hj,rfl,HBy⟩:=hrel
 clear HBz
 by_cases hlt : j < n2
 ·have hj1 : j < F.als.length:=by rw [HN2.out];exact hlt
  obtain ⟨us,hr1,hl1,hf1⟩:=HR2.out
  obtain ⟨ps,hr2,hl2,hf2⟩:=HQ2.out
  obtain ⟨g1,o1,cp1,hv1,hc1⟩:=hr1.at_ (by omega)
  obtain ⟨g2,o2,cp2,hv2,hc2⟩:=hr2.at_ (by omega)
  cases hv1
  cases hv2
  have gu : us[j]? = some us[j]:=List.getElem?_eq_getElem (by omega)
  have gp : ps[j]? = some ps[j]:=List.getElem?_eq_getElem (by omega)
  have ga : F.als[j]? = some F.als[j]:=List.getElem?_eq_getElem hj1
  have HBw:=HB1.out.trans (HBy.out.mono HB1.out.size)
  have d0:=(HBw.cell (World.block_lt_of_cell? _ _ (hc1 _ _ gu))).trans (hc1 _ _ gu)
  have f0:=(HBw.cell (World.block_lt_of_cell? _ _ (hc2 _ _ gp))).trans (hc2 _ _ gp)
  have k1:=hf1 j _ _ gu ga
  have k2:=hf2 j _ _ gp ga
  have hbz:=HOk.out.sets F.als[j] (List.getElem_mem hj1)
  have hbn:=canon_len hbz.1 hbz.2
  have HSm : Hid (∀ W,Below wr.heap.size wr W → Calls Tryz.prog 23 #[us[j],ps[j]] W fun e w'=>e = .returned (.bool true) ∧ ∃ n,w' = W.drewN n):=Lib.hid (fun W hW=>by
   have hz:=HBw.trans (hW.mono HBw.size)
   exact so_lsame _ _ F.als[j] W (k1.keep hz) (k2.keep hz) hbz.2 (by omega))
  obtain ⟨uj,huj⟩ : ∃ x,us[j] = x:=⟨_,rfl⟩
  obtain ⟨pj,hpj⟩ : ∃ x,ps[j] = x:=⟨_,rfl⟩
  rw [huj] at d0 k1 HSm
  rw [hpj] at f0 k2 HSm
  obtain ⟨pa,ca,rfl,-⟩:=k1
  obtain ⟨pb,cb,rfl,-⟩:=k2
  have hD:=World.block_lt_of_cell? _ _ d0
  have hF:=World.block_lt_of_cell? _ _ f0
  have HS : Hid (∀ W,Below wr.heap.size wr W → W.cell? ⟨w.heap.size,10,none⟩ = some (.slice (some ⟨g1,o1,none⟩) n2 ka) ∧ W.cell? ⟨rf,10,none⟩ = some (.slice (some ⟨g2,o2,none⟩) n2 ba) ∧ W.cell? ⟨g1,o1 + j,none⟩ = some (.slice pa F.als[j].length ca) ∧ W.cell? ⟨g2,o2 + j,none⟩ = some (.slice pb F.als[j].length cb)):=Lib.hid (fun W hW=>by
   have hz:=HX.out W (HBy.out.trans (hW.mono HBy.out.size)) 10
   exact ⟨hz.1,hz.2,(hW.cell hD).trans d0,(hW.cell hF).trans f0⟩)
  have hjn : (j : Int) < (n2 : Int):=by omega
  have HFn : Hid (∀ W,Below wr.heap.size wr W → Below w1.heap.size w1 W):=Lib.hid (fun W hW=>HBy.out.trans (hW.mono HBy.out.size))
  obtain ⟨ln,hln⟩ : ∃ n,F.als[j].length = n:=⟨_,rfl⟩
  rw [hln] at HS HSm
  clear hr1 hl1 hf1 hr2 hl2 hf2 hc1 hc2 gu gp ga HBw d0 f0 hbz hbn huj hpj hD hF hln us ps
  go_upto_region 20 with fail
  go_cut [160] from 147 to 160 (fun p W=>p = .bool false ∧ Hid (Below w1.heap.size w1 W))
  case first =>
   refine wp_region_held_drew (S:=fun W=>W.cell? ⟨w.heap.size,10,none⟩ = some (.slice (some ⟨g1,o1,none⟩) n2 ka) ∧ W.cell? ⟨rf,10,none⟩ = some (.slice (some ⟨g2,o2,none⟩) n2 ba) ∧ W.cell? ⟨g1,o1 + j,none⟩ = some (.slice pa ln ca) ∧ W.cell? ⟨g2,o2 + j,none⟩ = some (.slice pb ln cb)) (by kernel_rfl) ?_ (fun hHeld=>?_)
   ·exact HS.out _ drew_below
   refine tkA 0 (some 147) hHeld ?_;try simp only [put_norm]
   refine tkA 1 (some 148) hHeld ?_;try simp only [put_norm]
   refine tkA 2 (some 149) hHeld ?_;try simp only [put_norm]
   refine tkA 3 (some 150) hHeld ?_;try simp only [put_norm]
   refine tkA 4 (some 151) hHeld ?_;try simp only [put_norm]
   refine tkA 5 (some 152) hHeld ?_;try simp only [put_norm]
   refine tkA 6 (some 153) hHeld ?_;try simp only [put_norm]
   refine tkA 7 (some 154) hHeld ?_;try simp only [put_norm]
   refine tkA 8 (some 155) hHeld ?_;try simp only [put_norm]
   refine tkA 9 (some 156) hHeld ?_;try simp only [put_norm]
   refine tkA 10 (some 157) hHeld ?_;try simp only [put_norm]
   refine tkA 11 (some 158) hHeld ?_;try simp only [put_norm]
   refine rdy1 12 (fun K hK=>?_)
   go_simp
   refine (HSm.out _ drew_below).mono ?_
   rintro e w8 ⟨rfl,n8,hw8⟩
   have HB8 : Hid (Below wr.heap.size wr w8):=Lib.hid (by rw [hw8];exact below_drewN drew_below _)
   clear hw8
   refine hK.out _ _ ?_ (fun hHeld=>?_)
   ·exact HS.out _ HB8.out
   clear hK K
   refine tkA 13 (some 160) hHeld ?_;try simp only [put_norm]
   refine wpAnyH_done (by kernel_rfl) ?_ _
   go_wp2_with fail
   all_goals go_meet
   all_goals exact ⟨rfl,Lib.hid (HFn.out _ HB8.out)⟩
  case rest =>
  obtain ⟨rfl,HB9⟩:=hcut
  go_wp2_with fail
  go_roundw
  case rel=>exact ⟨j + 1,by omega,by go_num,HB9⟩
  case measure=>simp [intOf];omega
 obtain rfl : j = n2:=by omega
 have s11:=(HX.out wr HBy.out 11).1
 simp only [List.getElem?_toArray,List.getElem?_cons_zero,List.getElem?_cons_succ] at s11
 go_wp2_with fail
 clear s11
 go_loopw [8,165] (fun _ x wr=>∃ k : Nat,k ≤ n3 ∧ x = .int .i64 k ∧ Hid (Below w1.heap.size w1 wr)) (fun _ x _=>n3 - (intOf x).toNat)
 case atStart=>exact ⟨0,Nat.zero_le _,rfl,HBy⟩
 case round =>
 obtain ⟨m,hm,rfl,HBx⟩:=hrel
 clear HBy
 by_cases hlt : m < n3
 ·have hm1 : m < F.cls.length:=by rw [HN3.out];exact hlt
  obtain ⟨g1,o1,cp1,hv1,hc1⟩:=HR3.out.at_ (by omega)
  obtain ⟨g2,o2,cp2,hv2,hc2⟩:=HQ3.out.at_ (by omega)
  cases hv1
  cases hv2
  obtain ⟨y0,y1,y2,y3,y4⟩:=cls_at F.cls m hm1
  obtain ⟨z0,z1,z2,z3,z4⟩:=qcls_at F.cls m hm1
  have HBw:=HB1.out.trans (HBx.out.mono HB1.out.size)
  have hcf:=HOk.out.flags F.cls[m] (List.getElem_mem hm1)
  have HP1 : ∀ (jj : Nat) u,(clsCells F.cls)[jj]? = some u → wr.cell? ⟨g1,o1 + jj,none⟩ = some u:=fun jj u h=>(HBw.cell (World.block_lt_of_cell? _ _ (hc1 _ _ h))).trans (hc1 _ _ h)
  have HP2 : ∀ (jj : Nat) u,(qcls F.cls)[jj]? = some u → wr.cell? ⟨g2,o2 + jj,none⟩ = some u:=fun jj u h=>(HBw.cell (World.block_lt_of_cell? _ _ (hc2 _ _ h))).trans (hc2 _ _ h)
  have d0:=HP1 _ _ y0
  have d1:=HP1 _ _ y1
  have d2:=HP1 _ _ y2
  have d3:=HP1 _ _ y3
  have d4:=HP1 _ _ y4
  have f0:=HP2 _ _ z0
  have f1:=HP2 _ _ z1
  have f2:=HP2 _ _ z2
  have f3:=HP2 _ _ z3
  have f4:=HP2 _ _ z4
  rw [← Nat.add_assoc] at d1 d2 d3 d4 f1 f2 f3 f4
  obtain ⟨c,hc⟩ : ∃ c,F.cls[m] = c:=⟨_,rfl⟩
  rw [hc] at d0 d1 d2 d3 d4 f0 f1 f2 f3 f4 hcf
  have hD:=World.block_lt_of_cell? _ _ d0
  have hF:=World.block_lt_of_cell? _ _ f0
  have HSm : Hid (∀ W,Calls Tryz.prog 20 #[.agg #[.int .u16 c.flag,.int .i64 c.kind,.bool c.cross,.int .i64 c.first,.int .i64 c.count],.agg #[.int .i64 c.flag,.int .i64 c.kind,.bool c.cross,.int .i64 c.first,.int .i64 c.count]] W fun e w'=>e = .returned (.bool true) ∧ Below W.heap.size W w'):=Lib.hid (fun W=>so_sameClass c W ⟨by omega,hcf.2⟩)
  have HS : Hid (∀ W,Below wr.heap.size wr W → W.cell? ⟨w.heap.size,11,none⟩ = some (.slice (some ⟨g1,o1,none⟩) n3 kc) ∧ W.cell? ⟨rf,11,none⟩ = some (.slice (some ⟨g2,o2,none⟩) n3 bc) ∧ (W.cell? ⟨g1,o1 + m * 5,none⟩ = some (.int .u16 c.flag) ∧ W.cell? ⟨g1,o1 + m * 5 + 1,none⟩ = some (.int .i64 c.kind) ∧ W.cell? ⟨g1,o1 + m * 5 + 2,none⟩ = some (.bool c.cross) ∧ W.cell? ⟨g1,o1 + m * 5 + 3,none⟩ = some (.int .i64 c.first) ∧ W.cell? ⟨g1,o1 + m * 5 + 4,none⟩ = some (.int .i64 c.count)) ∧
    (W.cell? ⟨g2,o2 + m * 5,none⟩ = some (.int .i64 c.flag) ∧ W.cell? ⟨g2,o2 + m * 5 + 1,none⟩ = some (.int .i64 c.kind) ∧ W.cell? ⟨g2,o2 + m * 5 + 2,none⟩ = some (.bool c.cross) ∧ W.cell? ⟨g2,o2 + m * 5 + 3,none⟩ = some (.int .i64 c.first) ∧ W.cell? ⟨g2,o2 + m * 5 + 4,none⟩ = some (.int .i64 c.count))):=Lib.hid (fun W hW=>by
   have hz:=HX.out W (HBx.out.trans (hW.mono HBx.out.size)) 11
   exact ⟨hz.1,hz.2,⟨(hW.cell hD).trans d0,(hW.cell (World.block_lt_of_cell? _ _ d1)).trans d1,(hW.cell (World.block_lt_of_cell? _ _ d2)).trans d2,(hW.cell (World.block_lt_of_cell? _ _ d3)).trans d3,(hW.cell (World.block_lt_of_cell? _ _ d4)).trans d4⟩,
    ⟨(hW.cell hF).trans f0,(hW.cell (World.block_lt_of_cell? _ _ f1)).trans f1,(hW.cell (World.block_lt_of_cell? _ _ f2)).trans f2,(hW.cell (World.block_lt_of_cell? _ _ f3)).trans f3,(hW.cell (World.block_lt_of_cell? _ _ f4)).trans f4⟩⟩)
  have hmn : (m : Int) < (n3 : Int):=by omega
  have HFn : Hid (∀ W,Below wr.heap.size wr W → Below w1.heap.size w1 W):=Lib.hid (fun W hW=>HBx.out.trans (hW.mono HBx.out.size))
  clear hc1 hc2 y0 y1 y2 y3 y4 z0 z1 z2 z3 z4 HBw hcf HP1 HP2 d0 d1 d2 d3 d4 f0 f1 f2 f3 f4 hD hF hc
  go_upto_region 26 with fail
  go_cut [181] from 168 to 181 (fun p W=>p = .bool false ∧ Hid (Below w1.heap.size w1 W))
  case first =>
   refine wp_region_held_drew (S:=fun W=>W.cell? ⟨w.heap.size,11,none⟩ = some (.slice (some ⟨g1,o1,none⟩) n3 kc) ∧ W.cell? ⟨rf,11,none⟩ = some (.slice (some ⟨g2,o2,none⟩) n3 bc) ∧ (W.cell? ⟨g1,o1 + m * 5,none⟩ = some (.int .u16 c.flag) ∧ W.cell? ⟨g1,o1 + m * 5 + 1,none⟩ = some (.int .i64 c.kind) ∧ W.cell? ⟨g1,o1 + m * 5 + 2,none⟩ = some (.bool c.cross) ∧ W.cell? ⟨g1,o1 + m * 5 + 3,none⟩ = some (.int .i64 c.first) ∧ W.cell? ⟨g1,o1 + m * 5 + 4,none⟩ = some (.int .i64 c.count)) ∧ (W.cell? ⟨g2,o2 + m * 5,none⟩ = some (.int .i64 c.flag) ∧ W.cell? ⟨g2,o2 + m * 5 + 1,none⟩ = some (.int .i64 c.kind) ∧ W.cell? ⟨g2,o2 + m * 5 + 2,none⟩ = some (.bool c.cross) ∧ W.cell? ⟨g2,o2 + m * 5 + 3,none⟩ = some (.int .i64 c.first) ∧ W.cell? ⟨g2,o2 + m * 5 + 4,none⟩ = some (.int .i64 c.count))) (by kernel_rfl) ?_ (fun hHeld=>?_)
   ·exact HS.out _ drew_below
   refine tkA 0 (some 168) hHeld ?_;try simp only [put_norm]
   refine tkA 1 (some 169) hHeld ?_;try simp only [put_norm]
   refine tkA 2 (some 170) hHeld ?_;try simp only [put_norm]
   refine tkA 3 (some 171) hHeld ?_;try simp only [put_norm]
   refine tkA 4 (some 172) hHeld ?_;try simp only [put_norm]
   refine tkA 5 (some 173) hHeld ?_;try simp only [put_norm]
   refine tkA 6 (some 174) hHeld ?_;try simp only [put_norm]
   refine tkA 7 (some 175) hHeld ?_;try simp only [put_norm]
   refine tkA 8 (some 176) hHeld ?_;try simp only [put_norm]
   refine tkA 9 (some 177) hHeld ?_;try simp only [put_norm]
   refine tkA 10 (some 178) hHeld ?_;try simp only [put_norm]
   refine tkA 11 (some 179) hHeld ?_;try simp only [put_norm]
   refine rdy1 12 (fun K hK=>?_)
   go_simp
   refine (HSm.out _).mono ?_
   rintro e w8 ⟨rfl,hb8⟩
   have HB8 : Hid (Below wr.heap.size wr w8):=Lib.hid ((drew_below (w:=wr)).trans hb8)
   clear hb8
   refine hK.out _ _ ?_ (fun hHeld=>?_)
   ·exact HS.out _ HB8.out
   clear hK K
   refine tkA 13 (some 181) hHeld ?_;try simp only [put_norm]
   refine wpAnyH_done (by kernel_rfl) ?_ _
   go_wp2_with fail
   all_goals go_meet
   all_goals exact ⟨rfl,Lib.hid (HFn.out _ HB8.out)⟩
  case rest =>
  obtain ⟨rfl,HB9⟩:=hcut
  go_wp2_with fail
  go_roundw
  case rel=>exact ⟨m + 1,by omega,by go_num,HB9⟩
  case measure=>simp [intOf];omega
 obtain rfl : m = n3:=by omega
 have s12:=(HX.out wr HBx.out 12).1
 simp only [List.getElem?_toArray,List.getElem?_cons_zero,List.getElem?_cons_succ] at s12
 go_wp2_with fail
 clear s12
 go_loopw [9,186] (fun _ x wr=>∃ k : Nat,k ≤ n4 ∧ x = .int .i64 k ∧ Hid (Below w1.heap.size w1 wr)) (fun _ x _=>n4 - (intOf x).toNat)
 case atStart=>exact ⟨0,Nat.zero_le _,rfl,HBx⟩
 case round =>
 obtain ⟨q,hq,rfl,HBv⟩:=hrel
 clear HBx
 by_cases hlt : q < n4
 ·obtain ⟨rs,hr1,hr2,hr3⟩:=HR4.out
  obtain ⟨qs,hq1,hq2,hq3⟩:=HQ4.out
  have hqF : q < F.rls.length:=by rw [HN4.out];exact hlt
  have hq5 : q < rs.length:=by have h:=congrArg List.length hr1;rw [List.length_map] at h;omega
  have hq6 : q < qs.length:=by have h:=congrArg List.length hq1;rw [List.length_map] at h;omega
  have e1 : rs[q].1 = F.rls[q]:=by simp [← hr1]
  have e2 : qs[q].1 = F.rls[q]:=by simp [← hq1]
  obtain ⟨g1,o1,cp1,hv1,hc1⟩:=hr2.at_ (by omega)
  obtain ⟨g2,o2,cp2,hv2,hc2⟩:=hq2.at_ (by omega)
  have l1 : rs.length = n4:=by have h:=congrArg List.length hr1;rw [List.length_map,HN4.out] at h;exact h
  have l2 : qs.length = n4:=by have h:=congrArg List.length hq1;rw [List.length_map,HN4.out] at h;exact h
  rw [l1] at hv1
  rw [l2] at hv2
  clear l1 l2
  cases hv1
  cases hv2
  obtain ⟨y0,y1,y2,y3,y4,y5,y6⟩:=rls_at rs q hq5
  obtain ⟨z0,z1,z2,z3,z4,z5,z6,z7⟩:=qrls_at qs q hq6
  have HBw:=HB1.out.trans (HBv.out.mono HB1.out.size)
  have k1:=hr3 _ (List.getElem_mem hq5)
  have k2:=hq3 _ (List.getElem_mem hq6)
  rw [e1] at k1 y0 y1 y2 y3 y4 y5
  rw [e2] at k2 z0 z1 z2 z3 z4 z5 z7
  have hfl:=HRf.out F.rls[q] (List.getElem_mem hqF)
  have hnx:=HOk.out.nexts F.rls[q] (List.getElem_mem hqF)
  have hnl:=canon_len hnx.1 hnx.2
  obtain ⟨u1,hu1⟩ : ∃ x,rs[q].2 = x:=⟨_,rfl⟩
  obtain ⟨u2,hu2⟩ : ∃ x,qs[q].2 = x:=⟨_,rfl⟩
  obtain ⟨r,hr⟩ : ∃ r,F.rls[q] = r:=⟨_,rfl⟩
  rw [hr] at k1 k2 y0 y1 y2 y3 y4 y5 z0 z1 z2 z3 z4 z5 z7 hfl hnx hnl
  rw [hu1] at k1 y6
  rw [hu2] at k2 z6
  have HP1 : ∀ (jj : Nat) u,(rlsCells rs)[jj]? = some u → wr.cell? ⟨g1,o1 + jj,none⟩ = some u:=fun jj u h=>(HBw.cell (World.block_lt_of_cell? _ _ (hc1 _ _ h))).trans (hc1 _ _ h)
  have HP2 : ∀ (jj : Nat) u,(qrls qs)[jj]? = some u → wr.cell? ⟨g2,o2 + jj,none⟩ = some u:=fun jj u h=>(HBw.cell (World.block_lt_of_cell? _ _ (hc2 _ _ h))).trans (hc2 _ _ h)
  have d0:=HP1 _ _ y0
  have d1:=HP1 _ _ y1
  have d2:=HP1 _ _ y2
  have d3:=HP1 _ _ y3
  have d4:=HP1 _ _ y4
  have d5:=HP1 _ _ y5
  have d6:=HP1 _ _ y6
  have f0:=HP2 _ _ z0
  have f1:=HP2 _ _ z1
  have f2:=HP2 _ _ z2
  have f3:=HP2 _ _ z3
  have f4:=HP2 _ _ z4
  have f5:=HP2 _ _ z5
  have f6:=HP2 _ _ z6
  have f7:=HP2 _ _ z7
  rw [← Nat.add_assoc] at d1 d2 d3 d4 d5 d6 f1 f2 f3 f4 f5 f6 f7
  have HSm : Hid (∀ W,Below wr.heap.size wr W → Calls Tryz.prog 46 #[.agg #[.int .i64 r.kind,.int .u16 r.flag,.bool r.cross,.string r.strip,.string r.add,.string r.cond,u1],.agg #[.int .i64 r.kind,.int .i64 r.flag,.bool r.cross,.string r.strip,.string r.add,.string r.cond,u2,.int .i64 r.line]] W fun e w'=>e = .returned (.bool true) ∧ Below W.heap.size W w'):=Lib.hid (fun W hW=>by
   have hz:=HBw.trans (hW.mono HBw.size)
   exact so_sameRule r _ _ W hfl (k1.keep hz) (k2.keep hz) hnx.2 (by omega))
  obtain ⟨pa,ca,rfl,-⟩:=k1
  obtain ⟨pb,cb,rfl,-⟩:=k2
  have HS : Hid (∀ W,Below wr.heap.size wr W → W.cell? ⟨w.heap.size,12,none⟩ = some (.slice (some ⟨g1,o1,none⟩) n4 kl) ∧ W.cell? ⟨rf,12,none⟩ = some (.slice (some ⟨g2,o2,none⟩) n4 bl) ∧ (W.cell? ⟨g1,o1 + q * 7,none⟩ = some (.int .i64 r.kind) ∧ W.cell? ⟨g1,o1 + q * 7 + 1,none⟩ = some (.int .u16 r.flag) ∧ W.cell? ⟨g1,o1 + q * 7 + 2,none⟩ = some (.bool r.cross) ∧ W.cell? ⟨g1,o1 + q * 7 + 3,none⟩ = some (.string r.strip) ∧ W.cell? ⟨g1,o1 + q * 7 + 4,none⟩ = some (.string r.add) ∧ W.cell? ⟨g1,o1 + q * 7 + 5,none⟩ = some (.string r.cond) ∧ W.cell? ⟨g1,o1 + q * 7 + 6,none⟩ = some (.slice pa r.next.length ca)) ∧
    (W.cell? ⟨g2,o2 + q * 8,none⟩ = some (.int .i64 r.kind) ∧ W.cell? ⟨g2,o2 + q * 8 + 1,none⟩ = some (.int .i64 r.flag) ∧ W.cell? ⟨g2,o2 + q * 8 + 2,none⟩ = some (.bool r.cross) ∧ W.cell? ⟨g2,o2 + q * 8 + 3,none⟩ = some (.string r.strip) ∧ W.cell? ⟨g2,o2 + q * 8 + 4,none⟩ = some (.string r.add) ∧ W.cell? ⟨g2,o2 + q * 8 + 5,none⟩ = some (.string r.cond) ∧ W.cell? ⟨g2,o2 + q * 8 + 6,none⟩ = some (.slice pb r.next.length cb) ∧ W.cell? ⟨g2,o2 + q * 8 + 7,none⟩ = some (.int .i64 r.line))):=Lib.hid (fun W hW=>by
   have hz:=HX.out W (HBv.out.trans (hW.mono HBv.out.size)) 12
   exact ⟨hz.1,hz.2,⟨(hW.cell (World.block_lt_of_cell? _ _ d0)).trans d0,(hW.cell (World.block_lt_of_cell? _ _ d1)).trans d1,(hW.cell (World.block_lt_of_cell? _ _ d2)).trans d2,(hW.cell (World.block_lt_of_cell? _ _ d3)).trans d3,(hW.cell (World.block_lt_of_cell? _ _ d4)).trans d4,(hW.cell (World.block_lt_of_cell? _ _ d5)).trans d5,(hW.cell (World.block_lt_of_cell? _ _ d6)).trans d6⟩,
    ⟨(hW.cell (World.block_lt_of_cell? _ _ f0)).trans f0,(hW.cell (World.block_lt_of_cell? _ _ f1)).trans f1,(hW.cell (World.block_lt_of_cell? _ _ f2)).trans f2,(hW.cell (World.block_lt_of_cell? _ _ f3)).trans f3,(hW.cell (World.block_lt_of_cell? _ _ f4)).trans f4,(hW.cell (World.block_lt_of_cell? _ _ f5)).trans f5,(hW.cell (World.block_lt_of_cell? _ _ f6)).trans f6,(hW.cell (World.block_lt_of_cell? _ _ f7)).trans f7⟩⟩)
  have hqn : (q : Int) < (n4 : Int):=by omega
  have HFn : Hid (∀ W,Below wr.heap.size wr W → Below w1.heap.size w1 W):=Lib.hid (fun W hW=>HBv.out.trans (hW.mono HBv.out.size))
  clear hr1 hr2 hr3 hq1 hq2 hq3 e1 e2 hc1 hc2 y0 y1 y2 y3 y4 y5 y6 z0 z1 z2 z3 z4 z5 z6 z7 HBw hfl hnx hnl HP1 HP2 d0 d1 d2 d3 d4 d5 d6 f0 f1 f2 f3 f4 f5 f6 f7 hu1 hu2 hr
  go_upto_region 32 with fail
  go_cut [202] from 189 to 202 (fun p W=>p = .bool false ∧ Hid (Below w1.heap.size w1 W))
  case first =>
   refine wp_region_held_drew (S:=fun W=>W.cell? ⟨w.heap.size,12,none⟩ = some (.slice (some ⟨g1,o1,none⟩) n4 kl) ∧ W.cell? ⟨rf,12,none⟩ = some (.slice (some ⟨g2,o2,none⟩) n4 bl) ∧ (W.cell? ⟨g1,o1 + q * 7,none⟩ = some (.int .i64 r.kind) ∧ W.cell? ⟨g1,o1 + q * 7 + 1,none⟩ = some (.int .u16 r.flag) ∧ W.cell? ⟨g1,o1 + q * 7 + 2,none⟩ = some (.bool r.cross) ∧ W.cell? ⟨g1,o1 + q * 7 + 3,none⟩ = some (.string r.strip) ∧ W.cell? ⟨g1,o1 + q * 7 + 4,none⟩ = some (.string r.add) ∧ W.cell? ⟨g1,o1 + q * 7 + 5,none⟩ = some (.string r.cond) ∧ W.cell? ⟨g1,o1 + q * 7 + 6,none⟩ = some (.slice pa r.next.length ca)) ∧ (W.cell? ⟨g2,o2 + q * 8,none⟩ = some (.int .i64 r.kind) ∧ W.cell? ⟨g2,o2 + q * 8 + 1,none⟩ = some (.int .i64 r.flag) ∧ W.cell? ⟨g2,o2 + q * 8 + 2,none⟩ = some (.bool r.cross) ∧ W.cell? ⟨g2,o2 + q * 8 + 3,none⟩ = some (.string r.strip) ∧ W.cell? ⟨g2,o2 + q * 8 + 4,none⟩ = some (.string r.add) ∧ W.cell? ⟨g2,o2 + q * 8 + 5,none⟩ = some (.string r.cond) ∧ W.cell? ⟨g2,o2 + q * 8 + 6,none⟩ = some (.slice pb r.next.length cb) ∧ W.cell? ⟨g2,o2 + q * 8 + 7,none⟩ = some (.int .i64 r.line))) (by kernel_rfl) ?_ (fun hHeld=>?_)
   ·exact HS.out _ drew_below
   refine tkA 0 (some 189) hHeld ?_;try simp only [put_norm]
   refine tkA 1 (some 190) hHeld ?_;try simp only [put_norm]
   refine tkA 2 (some 191) hHeld ?_;try simp only [put_norm]
   refine tkA 3 (some 192) hHeld ?_;try simp only [put_norm]
   refine tkA 4 (some 193) hHeld ?_;try simp only [put_norm]
   refine tkA 5 (some 194) hHeld ?_;try simp only [put_norm]
   refine tkA 6 (some 195) hHeld ?_;try simp only [put_norm]
   refine tkA 7 (some 196) hHeld ?_;try simp only [put_norm]
   refine tkA 8 (some 197) hHeld ?_;try simp only [put_norm]
   refine tkA 9 (some 198) hHeld ?_;try simp only [put_norm]
   refine tkA 10 (some 199) hHeld ?_;try simp only [put_norm]
   refine tkA 11 (some 200) hHeld ?_;try simp only [put_norm]
   refine rdy1 12 (fun K hK=>?_)
   go_simp
   refine (HSm.out _ drew_below).mono ?_
   rintro e w8 ⟨rfl,hb8⟩
   have HB8 : Hid (Below wr.heap.size wr w8):=Lib.hid ((drew_below (w:=wr)).trans hb8)
   clear hb8
   refine hK.out _ _ ?_ (fun hHeld=>?_)
   ·exact HS.out _ HB8.out
   clear hK K
   refine tkA 13 (some 202) hHeld ?_;try simp only [put_norm]
   refine wpAnyH_done (by kernel_rfl) ?_ _
   go_wp2_with fail
   all_goals go_meet
   all_goals exact ⟨rfl,Lib.hid (HFn.out _ HB8.out)⟩
  case rest =>
  obtain ⟨rfl,HB9⟩:=hcut
  go_wp2_with fail
  go_roundw
  case rel=>exact ⟨q + 1,by omega,by go_num,HB9⟩
  case measure=>simp [intOf];omega
 obtain rfl : q = n4:=by omega
 go_wp2_with fail
 go_ret
 exact ⟨rfl,HB1.out.trans (HBv.out.mono HB1.out.size)⟩
end Go.Proofs.YtkdajhmlhjkcdaaGreatDoor
namespace Go.Proofs.YtkdajhmlhjkcdaaGreatDoor
open Go.RowKit Go.Maps
structure Mkd (lo hi : Nat) (w w' : World) : Prop where
 os : w'.os = w.os
 tape : w'.tape = w.tape
 output : w'.output = w.output
 size : w.heap.size ≤ w'.heap.size
 block : ∀ k,k < w.heap.size → (k < lo ∨ hi ≤ k) → w'.heap[k]? = w.heap[k]?
 live : ∀ p : Addr,(∃ v,w.cell? p = some v) → (∃ v,w'.cell? p = some v) ∧ w'.frozen? p = w.frozen? p
theorem Mkd.refl (lo hi : Nat) (w : World) : Mkd lo hi w w:=⟨rfl,rfl,rfl,Nat.le_refl _,fun _ _ _=>rfl,fun _ h=>⟨h,rfl⟩⟩
theorem Mkd.set {lo hi : Nat} {w w' : World} (h : Mkd lo hi w w') (g j : Nat) (u : Value) (h1 : lo ≤ g) (h2 : g < hi) : Mkd lo hi w (w'.setCell ⟨g,j,none⟩ u) :=
 ⟨h.os,h.tape,h.output,Nat.le_trans h.size (by simp),fun k hk ho=>by rw [Below.heap_setCell _ _ _ _ (by simp;omega)];exact h.block k hk ho,
  fun p hp=>⟨by obtain ⟨v,hv⟩:=(h.live p hp).1;exact cell?_setCell_some hv,by rw [World.frozen?_setCell];exact (h.live p hp).2⟩⟩
theorem Mkd.below {lo hi D : Nat} {W w w' : World} (h : Mkd lo hi w w') (hb : Below D W w) (hD : D ≤ lo) (hs : D ≤ w.heap.size) : Below D W w' :=
 ⟨h.os.trans hb.os,h.tape.trans hb.tape,h.output.trans hb.output,Nat.le_trans hb.size h.size,fun k hk=>(h.block k (by omega) (.inl (by omega))).trans (hb.block k hk)⟩
theorem Mkd.cell {lo hi : Nat} {w w' : World} (h : Mkd lo hi w w') {g j : Nat} {v : Value} (hc : w.cell? ⟨g,j,none⟩ = some v) (ho : g < lo ∨ hi ≤ g) : w'.cell? ⟨g,j,none⟩ = some v :=
 (World.cell?_of_block (h.block g (World.block_lt_of_cell? _ _ hc) ho)).trans hc
def Mk (w : World) (x : Int) (u : Value) (k : Nat) : Prop:=∀ g o n c,u = .slice (some ⟨g,o,none⟩) n c → ∀ j,j < k → w.cell? ⟨g,o + j,none⟩ = some (.int .u16 x)
theorem Mk.zero (w : World) (x : Int) (u : Value) : Mk w x u 0:=fun _ _ _ _ _ j hj=>absurd hj (Nat.not_lt_zero _)
theorem Mk.set {w : World} {x : Int} {u : Value} {k : Nat} (h : Mk w x u k) (a : Addr) : Mk (w.setCell a (.int .u16 x)) x u k:=fun g o n c e j hj=>by
 by_cases ha : a = ⟨g,o + j,none⟩
 ·subst ha;exact World.cell?_setCell_same _ _ _ (h g o n c e j hj)
 ·rw [World.cell?_setCell_other (h:=ha)];exact h g o n c e j hj
theorem Mk.step {w : World} {x : Int} {g o n c k : Nat} (h : Mk w x (.slice (some ⟨g,o,none⟩) n c) k) (hl : ∃ v,w.cell? ⟨g,o + k,none⟩ = some v) : Mk (w.setCell ⟨g,o + k,none⟩ (.int .u16 x)) x (.slice (some ⟨g,o,none⟩) n c) (k + 1):=fun g' o' n' c' e j hj=>by
 cases e
 by_cases hk : j = k
 ·subst hk;obtain ⟨v,hv⟩:=hl;exact World.cell?_setCell_same _ _ _ hv
 ·exact h.set _ g o n c rfl j (by omega)
theorem Mk.other {w : World} {x : Int} {u v : Value} {k g' j' : Nat} (h : Mk w x u k) (hne : ∀ g o n c,u = .slice (some ⟨g,o,none⟩) n c → 0 < k → g ≠ g') : Mk (w.setCell ⟨g',j',none⟩ v) x u k:=fun g o n c e j hj=>by
 rw [World.cell?_setCell_other (h:=fun e2=>hne g o n c e (by omega) (by cases e2;rfl))];exact h g o n c e j hj
theorem Mk.keep {w w' : World} {x : Int} {u : Value} {k : Nat} (h : Mk w x u k) (hb : ∀ g o n c,u = .slice (some ⟨g,o,none⟩) n c → 0 < k → w'.heap[g]? = w.heap[g]?) : Mk w' x u k:=fun g o n c e j hj =>
 (World.cell?_of_block (hb g o n c e (by omega))).trans (h g o n c e j hj)
theorem Mk.fs {w : World} {x : Int} {p : Option Addr} {n c : Nat} (h : Mk w x (.slice p n c) n) (hc : n ≤ c) (hp : n = 0 ∨ ∃ g o,p = some ⟨g,o,none⟩) : FS w (.slice p n c) (List.replicate n x):=by
 refine ⟨p,c,by rw [List.length_replicate],by rw [List.length_replicate];exact hc,?_⟩
 rw [List.length_replicate]
 rcases hp with hp | ⟨g,o,rfl⟩
 ·exact .inl hp
 refine .inr ⟨g,o,rfl,fun j hj=>?_⟩
 rw [h g o n c rfl j hj]
 simp [List.getD,hj]
def RowL (w : World) (lo hi m : Nat) (A : Option Addr) (n : Nat) : Prop:=n = 0 ∨ ∃ g,A = some ⟨g,0,none⟩ ∧ lo ≤ g ∧ g < hi ∧ ∀ j,j < n * m → (∃ v,w.cell? ⟨g,j,none⟩ = some v) ∧ w.frozen? ⟨g,j,none⟩ = false
theorem RowL.of_own {w : World} {B lo hi e m n cap : Nat} {A : Option Addr} {xs : List Value} (h : w.ownsRow B e m (.slice A n cap) n xs) (hi_ : InB lo hi (.slice A n cap)) : RowL w lo hi m A n:=by
 by_cases h0 : n = 0
 ·exact .inl h0
 obtain ⟨g,cap',hv,-,-,-,hc,hz⟩:=own_at h (by omega)
 cases hv
 obtain ⟨i1,i2⟩:=hi_ g 0 n cap rfl h0
 refine .inr ⟨g,rfl,i1,i2,fun j hj=>⟨?_,hz j⟩⟩
 have hl:=h.1
 exact ⟨xs[j],hc j xs[j] (List.getElem?_eq_getElem (by omega))⟩
theorem RowL.keep {w w' : World} {lo hi m n : Nat} {A : Option Addr} (h : RowL w lo hi m A n) (hb : Below w.heap.size w w') : RowL w' lo hi m A n:=h.imp id (by
 rintro ⟨g,hA,h1,h2,h3⟩
 refine ⟨g,hA,h1,h2,fun j hj=>?_⟩
 obtain ⟨⟨v,hv⟩,hz⟩:=h3 j hj
 have hl:=World.block_lt_of_cell? _ _ hv
 exact ⟨⟨v,(hb.cell hl).trans hv⟩,(hb.frozen hl).trans hz⟩)
theorem RowL.mkd {w w' : World} {lo hi m n a b : Nat} {A : Option Addr} (h : RowL w lo hi m A n) (hm : Mkd a b w w') : RowL w' lo hi m A n:=h.imp id (by
 rintro ⟨g,hA,h1,h2,h3⟩
 refine ⟨g,hA,h1,h2,fun j hj=>?_⟩
 obtain ⟨hv,hz⟩:=h3 j hj
 obtain ⟨h4,h5⟩:=hm.live ⟨g,j,none⟩ hv
 exact ⟨h4,h5.trans hz⟩)
def SlL (w : World) (lo hi : Nat) (u : Value) (n : Nat) : Prop:=∃ p c,u = .slice p n c ∧ n ≤ c ∧ (n = 0 ∨ ∃ g o,p = some ⟨g,o,none⟩ ∧ lo ≤ g ∧ g < hi ∧ ∀ j,j < n → (∃ v,w.cell? ⟨g,o + j,none⟩ = some v) ∧ w.frozen? ⟨g,o + j,none⟩ = false)
theorem SlL.of_fn {w : World} {B lo hi : Nat} {u : Value} {zs : List Int} (h : FN B w u zs) (hi_ : InB lo hi u) : SlL w lo hi u zs.length:=by
 obtain ⟨p,c,rfl,hc,h2⟩:=h
 refine ⟨p,c,rfl,hc,?_⟩
 by_cases h0 : zs.length = 0
 ·exact .inl h0
 obtain ⟨g,o,rfl,-,hH⟩:=h2.resolve_left h0
 obtain ⟨i1,i2⟩:=hi_ g o zs.length c rfl h0
 exact .inr ⟨g,o,rfl,i1,i2,fun j hj=>⟨⟨_,(hH j (by simpa using hj)).1⟩,(hH j (by simpa using hj)).2⟩⟩
theorem SlL.keep {w w' : World} {lo hi n : Nat} {u : Value} (h : SlL w lo hi u n) (hb : Below w.heap.size w w') : SlL w' lo hi u n:=by
 obtain ⟨p,c,hu,hc,h2⟩:=h
 refine ⟨p,c,hu,hc,h2.imp id ?_⟩
 rintro ⟨g,o,hA,h1,h2,h3⟩
 refine ⟨g,o,hA,h1,h2,fun j hj=>?_⟩
 obtain ⟨⟨v,hv⟩,hz⟩:=h3 j hj
 have hl:=World.block_lt_of_cell? _ _ hv
 exact ⟨⟨v,(hb.cell hl).trans hv⟩,(hb.frozen hl).trans hz⟩
theorem SlL.mkd {w w' : World} {lo hi n a b : Nat} {u : Value} (h : SlL w lo hi u n) (hm : Mkd a b w w') : SlL w' lo hi u n:=by
 obtain ⟨p,c,hu,hc,h2⟩:=h
 refine ⟨p,c,hu,hc,h2.imp id ?_⟩
 rintro ⟨g,o,hA,h1,h2,h3⟩
 refine ⟨g,o,hA,h1,h2,fun j hj=>?_⟩
 obtain ⟨hv,hz⟩:=h3 j hj
 obtain ⟨h4,h5⟩:=hm.live ⟨g,o + j,none⟩ hv
 exact ⟨h4,h5.trans hz⟩
theorem own_frame {B e size n : Nat} {w w' : World} {v : Value} {xs : List Value} (h : w.ownsRow B e size v n xs) (hf : ∀ k,B ≤ k → k < w.heap.size → w'.heap[k]? = w.heap[k]?) : w'.ownsRow B e size v n xs :=
 ⟨h.1,h.2.imp id (by
  rintro ⟨g,cap,cur,hv,h1,h2,h3⟩
  exact ⟨g,cap,cur,hv,h1,(hf g h1 (block_lt h2)).trans h2,h3⟩)⟩
theorem FN.frame {B : Nat} {w w' : World} {v : Value} {zs : List Int} (h : FN B w v zs) (hf : ∀ k,B ≤ k → k < w.heap.size → w'.heap[k]? = w.heap[k]?) : FN B w' v zs:=by
 obtain ⟨p,c,hv,hc,h⟩:=h
 refine ⟨p,c,hv,hc,h.imp id ?_⟩
 rintro ⟨g,off,hp,h1,h2⟩
 refine ⟨g,off,hp,h1,fun i hi=>?_⟩
 obtain ⟨h3,h4⟩:=h2 i hi
 have hb:=hf g h1 (World.block_lt_of_cell? _ _ h3)
 exact ⟨(World.cell?_of_block hb).trans h3,(World.frozen?_of_block hb).trans h4⟩
theorem AffN.frame {B : Nat} {w w' : World} {F : Fl} {a : AV} (h : AffN B w F a) (hf : ∀ k,B ≤ k → k < w.heap.size → w'.heap[k]? = w.heap[k]?) : AffN B w' F a:=by
 obtain ⟨us,h1,h2,h3⟩:=h.als
 obtain ⟨rs,h4,h5,h6⟩:=h.rls
 exact ⟨own_frame h.reps hf,⟨us,own_frame h1 hf,h2,fun k u b hu hb=>(h3 k u b hu hb).frame hf⟩,own_frame h.cls hf,rs,h4,own_frame h5 hf,fun r hr=>(h6 r hr).frame hf⟩
structure Marks where
 b0 : Nat
 b1 : Nat
 b2 : Nat
 b3 : Nat
 b4 : Nat
 b5 : Nat
structure MarksOk (M : Marks) : Prop where
 h1 : M.b0 ≤ M.b1
 h2 : M.b1 ≤ M.b2
 h3 : M.b2 ≤ M.b3
 h4 : M.b3 ≤ M.b4
 h5 : M.b4 ≤ M.b5
structure KB (M : Marks) (w : World) (F : Fl) (Ar Aa Ac Al : Option Addr) (us : List Value) (rs : List (Rl × Value)) : Prop where
 ok : MarksOk M
 reps : RowL w M.b0 M.b1 2 Ar F.reps.length
 als : RowL w M.b1 M.b2 1 Aa F.als.length
 cls : RowL w M.b0 M.b1 5 Ac F.cls.length
 rls : RowL w M.b3 M.b4 7 Al rs.length
 len : us.length = F.als.length
 rmap : rs.map (·.1) = F.rls
 ah : ∀ (i : Nat) u g,us[i]? = some u → Aa = some ⟨g,0,none⟩ → w.cell? ⟨g,i,none⟩ = some u
 rh : ∀ (m : Nat) (h : m < rs.length) g,Al = some ⟨g,0,none⟩ → w.cell? ⟨g,m * 7 + 6,none⟩ = some rs[m].2
 ael : ∀ (i : Nat) u b,us[i]? = some u → F.als[i]? = some b → SlL w M.b2 M.b3 u b.length
 rel : ∀ r ∈ rs,SlL w M.b4 M.b5 r.2 r.1.next.length
theorem AffZ.kb {B : Nat} {w : World} {F : Fl} {Ar Aa Ac Al : Option Addr} {nr na nc nl kr ka kc kl : Nat} (h : AffZ B w F ⟨.slice Ar nr kr,.slice Aa na ka,.slice Ac nc kc,.slice Al nl kl⟩) :
  ∃ (M : Marks) (us : List Value) (rs : List (Rl × Value)),M.b0 = B ∧ M.b5 = w.heap.size ∧ KB M w F Ar Aa Ac Al us rs ∧ nr = F.reps.length ∧ na = F.als.length ∧ nc = F.cls.length ∧ nl = rs.length:=by
 obtain ⟨B1,B2,B3,B4,us,rs,⟨o1,o2,o3,o4,o5⟩,⟨i1,i2,i3,i4,i5,i6⟩,h1,⟨h2,h3,h4⟩,h5,h6,h7,h8⟩:=h
 have len_of : ∀ {e size n k m : Nat} {A : Option Addr} {xs : List Value},w.ownsRow B e size (.slice A k m) n xs → k = n:=fun h=>by
  rcases h.2 with ⟨hv,h0⟩ | ⟨g,cap,cur,hv,_⟩
  ·cases hv;exact h0.symm
  cases hv;rfl
 have e1:=len_of h1
 have e2:=len_of h2
 have e3:=len_of h5
 have e4:=len_of h7
 dsimp only at h1 h2 h5 h7 i1 i2 i3 i5
 subst e1 e2 e3 e4
 refine ⟨⟨B,B1,B2,B3,B4,w.heap.size⟩,us,rs,rfl,rfl,⟨⟨o1,o2,o3,o4,o5⟩,RowL.of_own h1 i1,RowL.of_own h2 i3,RowL.of_own h5 i2,RowL.of_own h7 i5,h3,h6,?_,?_,?_,?_⟩,rfl,rfl,rfl,rfl⟩
 ·rintro i u g hu rfl
  have hl:=(List.getElem?_eq_some_iff.1 hu).1
  obtain ⟨g',cap,hv,-,-,-,hc,-⟩:=own_at h2 (by omega)
  cases hv
  exact hc i u hu
 ·rintro m hm g rfl
  obtain ⟨g',cap,hv,-,-,-,hc,-⟩:=own_at h7 (by omega)
  cases hv
  obtain ⟨-,-,-,-,-,-,q6⟩:=rls_at rs m hm
  exact hc _ _ q6
 ·exact fun i u b hu hb=>SlL.of_fn (h4 i u b hu hb) (i4 u (List.mem_of_getElem? hu))
 exact fun r hr=>SlL.of_fn (h8 r hr) (i6 r hr)
section
variable {M : Marks} {w w' : World} {F : Fl} {Ar Aa Ac Al : Option Addr} {us : List Value} {rs : List (Rl × Value)}
theorem KB.keep (h : KB M w F Ar Aa Ac Al us rs) (hb : Below w.heap.size w w') : KB M w' F Ar Aa Ac Al us rs :=
 ⟨h.ok,h.reps.keep hb,h.als.keep hb,h.cls.keep hb,h.rls.keep hb,h.len,h.rmap,fun i u g hu hA=>(hb.cell (World.block_lt_of_cell? _ _ (h.ah i u g hu hA))).trans (h.ah i u g hu hA),fun m hm g hA=>(hb.cell (World.block_lt_of_cell? _ _ (h.rh m hm g hA))).trans (h.rh m hm g hA),
  fun i u b hu hb'=>(h.ael i u b hu hb').keep hb,fun r hr=>(h.rel r hr).keep hb⟩
theorem KB.set (h : KB M w F Ar Aa Ac Al us rs) (g j : Nat) (x : Value) (h1 : M.b0 ≤ g) (h2 : g < M.b5) (ha : g < M.b1 ∨ M.b2 ≤ g) (hr : g < M.b3 ∨ M.b4 ≤ g ∨ j % 7 ≠ 6) : KB M (w.setCell ⟨g,j,none⟩ x) F Ar Aa Ac Al us rs:=by
 have hm : Mkd M.b0 M.b5 w (w.setCell ⟨g,j,none⟩ x):=(Mkd.refl _ _ _).set g j x h1 h2
 refine ⟨h.ok,h.reps.mkd hm,h.als.mkd hm,h.cls.mkd hm,h.rls.mkd hm,h.len,h.rmap,fun i u g' hu hA=>?_,fun m hm' g' hA=>?_,fun i u b hu hb'=>(h.ael i u b hu hb').mkd hm,fun r hr=>(h.rel r hr).mkd hm⟩
 ·rw [World.cell?_setCell_other (h:=fun e=>by
   have hl:=(List.getElem?_eq_some_iff.1 hu).1
   obtain ⟨g2,hA2,q1,q2,-⟩:=h.als.resolve_left (by have:=h.len;omega)
   cases e
   rw [hA] at hA2
   cases hA2
   omega)]
  exact h.ah i u g' hu hA
 rw [World.cell?_setCell_other (h:=fun e=>by
  obtain ⟨g2,hA2,q1,q2,-⟩:=h.rls.resolve_left (by omega)
  cases e
  rw [hA] at hA2
  cases hA2
  omega)]
 exact h.rh m hm' g' hA
def AM (w : World) (F : Fl) (us : List Value) (i : Nat) : Prop:=∀ (k : Nat) u b,k < i → us[k]? = some u → F.als[k]? = some b → Mk w 50001 u b.length
theorem AM.mark {i : Nat} (h : AM w F us i) (a : Addr) : AM (w.setCell a (.int .u16 50001)) F us i:=fun k u b hk hu hb=>(h k u b hk hu hb).set a
theorem AM.other {i : Nat} (h : AM w F us i) (hk : KB M w F Ar Aa Ac Al us rs) (g j : Nat) (x : Value) (ho : g < M.b2 ∨ M.b3 ≤ g) : AM (w.setCell ⟨g,j,none⟩ x) F us i:=fun k u b hk' hu hb =>
 (h k u b hk' hu hb).other (fun g' o n c e h0 e2=>by
  obtain ⟨p,c',hu',-,h3⟩:=hk.ael k u b hu hb
  rw [hu'] at e
  injection e with e1
  obtain ⟨g3,o3,hp,q1,q2,-⟩:=h3.resolve_left (by omega)
  rw [hp] at e1
  cases e1
  omega)
theorem AM.step {i : Nat} (h : AM w F us i) {u : Value} {b : List Int} (hu : us[i]? = some u) (hb : F.als[i]? = some b) (hm : Mk w 50001 u b.length) : AM w F us (i + 1):=fun k u' b' hk hu' hb'=>by
 by_cases e : k = i
 ·subst e
  rw [hu] at hu';rw [hb] at hb'
  cases hu';cases hb'
  exact hm
 ·exact h k u' b' (by omega) hu' hb'
end
end Go.Proofs.YtkdajhmlhjkcdaaGreatDoor
namespace Go.Proofs.YtkdajhmlhjkcdaaGreatDoor
open Go.RowKit Go.Maps
theorem piece_err {b : Bool} {s : ByteArray} {c : Int} (h : pieceR b s = .error c) : c ≠ 0:=by
 unfold pieceR at h
 split at h
 ·cases h
 split at h
 split at h
 ·cases h;assumption
 split at h
 ·cases h;decide
 split at h
 ·cases h;assumption
 cases h
theorem fresh_err {F : Fl} {s : ByteArray} {c : Int} (h : freshR F s = .error c) : c ≠ 0:=by
 unfold freshR at h
 split at h
 ·cases h;assumption
 split at h
 ·cases h;decide
 cases h
theorem rep_err {F : Fl} {l : Int} {row : List ByteArray} {c : Int} (h : repR_ F l row = .error c) : c ≠ 0:=by
 unfold repR_ at h
 split at h
 ·cases h;decide
 split at h
 ·rename_i hp;cases h;exact piece_err hp
 split at h
 ·rename_i hp;cases h;exact piece_err hp
 cases h
theorem alias_err {F : Fl} {l : Int} {row : List ByteArray} {c : Int} (h : aliasR F l row = .error c) : c ≠ 0:=by
 unfold aliasR at h
 split at h
 ·cases h;decide
 split at h
 ·cases h;assumption
 cases h
theorem addR_err {w : List UInt8} {c : Int} (h : addR w = .error c) : c ≠ 0:=by
 unfold addR at h
 split at h
 ·cases h
 split at h
 ·cases h;assumption
 cases h
theorem nextR_err {F : Fl} {k : Int} {r : List UInt8} {b : Bool} {c : Int} (h : nextR F k r b = .error c) : c ≠ 0:=by
 unfold nextR at h
 split at h
 ·split at h
  ·cases h;decide
  split at h
  ·cases h;assumption
  cases h
 cases h
theorem condOf_err {row : List ByteArray} {c : Int} (h : condOf row = .error c) : c ≠ 0:=by
 unfold condOf at h
 split at h
 ·split at h
  ·cases h;decide
  split at h
  ·rename_i hc
   cases h
   have:=condR_err hc
   simpa using this
  cases h
 cases h
theorem rule_err {cl : Cl} {F : Fl} {l : Int} {row : List ByteArray} {c : Int} (h : ruleIn cl F l row = .error c) : c ≠ 0:=by
 unfold ruleIn at h
 split at h
 ·rename_i hr
  cases h
  unfold ruleR at hr
  split at hr
  ·cases hr;decide
  split at hr
  ·rename_i hp;cases hr;exact piece_err hp
  split at hr
  split at hr
  ·cases hr;assumption
  split at hr
  ·rename_i ha;cases hr;exact addR_err ha
  split at hr
  ·rename_i hn;cases hr;exact nextR_err hn
  split at hr
  ·rename_i hc;cases hr;exact condOf_err hc
  cases hr
 cases h
theorem group_err {end_ : Int} {ok : List ByteArray → Bool} {inn : Fl → Int → List ByteArray → Except Int Fl} (hi : ∀ F l r c,inn F l r = .error c → c ≠ 0) : ∀ (n : Nat) (S : Sx) (l c : Int),groupR end_ ok inn n S = .error (l,c) → c ≠ 0
 | 0,S,l,c,h=>by rw [groupR] at h;cases h
 | n + 1,S,l,c,h=>by
   rw [groupR] at h
   split at h
   ·cases h;decide
   ·split at h
    ·split at h
     ·rename_i hF;cases h;exact hi _ _ _ _ hF
     ·exact group_err hi n _ l c h
    ·cases h;decide
theorem onFl_err {l l' c : Int} {S : Sx} {x : Except Int Fl} (h : onFl l S x = .error (l',c)) : x = .error c:=by
 cases x with
 | error e=>cases h;rfl
 | ok F=>cases h
theorem head_err {end_ l c : Int} {S : Sx} {row : List ByteArray} {k : Nat} (h : headR end_ S row k = .error (l,c)) : c ≠ 0:=by
 unfold headR at h
 split at h
 ·have hF:=onFl_err h
  unfold kindR at hF
  split at hF
  ·cases hF;decide
  split at hF
  ·cases hF;decide
  cases hF
 split at h
 ·have hF:=onFl_err h
  unfold setR at hF
  split at hF
  ·cases hF;decide
  cases hF
 split at h
 ·have hF:=onFl_err h
  unfold tryR at hF
  split at hF
  ·cases hF;assumption
  cases hF
 split at h
 ·have hF:=onFl_err h
  unfold specialR at hF
  split at hF
  ·rename_i hf;cases hF;exact fresh_err hf
  cases hF
 split at h
 ·have hF:=onFl_err h
  unfold leastR at hF
  split at hF
  ·cases hF;decide
  cases hF
 split at h
 ·unfold repsG at h
  split at h
  ·cases h;decide
  exact group_err (fun F l r c h=>rep_err h) _ _ _ _ h
 split at h
 ·unfold aliasG at h
  split at h
  ·cases h;decide
  split at h
  ·cases h;decide
  exact group_err (fun F l r c h=>alias_err h) _ _ _ _ h
 unfold classR at h
 split at h
 ·rename_i hf;cases h;exact fresh_err hf
 split at h
 ·cases h;decide
 split at h
 ·cases h;decide
 split at h
 ·cases h;decide
 exact group_err (fun F l r c h=>rule_err h) _ _ _ _ h
theorem read_err {end_ : Int} : ∀ (n : Nat) (S : Sx) (l c : Int),readGo end_ n S = .error (l,c) → c ≠ 0
 | 0,S,l,c,h=>by rw [readGo] at h;cases h
 | n + 1,S,l,c,h=>by
   rw [readGo] at h
   split at h
   ·cases h
   ·split at h
    ·rename_i e hs
     cases h
     unfold stepR at hs
     split at hs
     ·cases hs;decide
     split at hs
     ·cases hs;decide
     split at hs
     ·cases hs;decide
     split at hs
     ·rename_i hh
      cases hs
      exact head_err hh
     ·cases hs
    ·exact read_err n _ l c h
theorem affR_err {t : List UInt8} {l c : Int} (h : affR t = .error (l,c)) : c ≠ 0:=by
 unfold affR at h
 split at h
 ·cases h;decide
 split at h
 ·rename_i hr;cases h;exact read_err _ _ _ _ hr
 split at h
 ·cases h;decide
 cases h
abbrev wakeT : ByteArray:=⟨#[83,70,88,32,65,32,89,32,49,10,83,70,88,32,65,32,121,32,105,101,115,32,91,94,97,101,105,111,117,93,121,10]⟩
abbrev tIES : ByteArray:=⟨#[105,101,115]⟩
abbrev tCND : ByteArray:=⟨#[91,94,97,101,105,111,117,93,121]⟩
theorem wake_rows : rowsOf (eachOf wakeT.data.toList) = [(1,[kSFX,⟨#[65]⟩,⟨#[89]⟩,⟨#[49]⟩]),(2,[kSFX,⟨#[65]⟩,⟨#[121]⟩,tIES,tCND])]:=by kernel_rfl
theorem wake_lines : (linesOf wakeT.data.toList).length = 2:=by kernel_rfl
def wakeC : Cl:=⟨65,2,true,0,1⟩
theorem wake_piece : pieceR true ⟨#[121]⟩ = .ok ⟨#[121]⟩:=by
 unfold pieceR
 rw [if_neg (by rintro ⟨-,h⟩;revert h;decide)]
 have hw : wordR (⟨#[121]⟩ : ByteArray).data.toList = ([121],[],false,0):=by
  unfold wordR
  rw [wgo_more _ _ _ (by decide) (by decide),wgo_nil]
  rfl
 rw [hw]
 rfl
theorem wake_rule (F : Fl) : ∃ cond,ruleR F wakeC 2 [kSFX,⟨#[65]⟩,⟨#[121]⟩,tIES,tCND] = .ok ⟨2,65,true,⟨#[121]⟩,tIES,cond,[],2⟩:=by
 unfold ruleR
 rw [if_neg (by simp)]
 have h2 : fieldAt [kSFX,⟨#[65]⟩,⟨#[121]⟩,tIES,tCND] 2 = ⟨#[121]⟩:=rfl
 have h3 : fieldAt [kSFX,⟨#[65]⟩,⟨#[121]⟩,tIES,tCND] 3 = tIES:=rfl
 rw [h2,h3,wake_piece]
 have hw : wordR tIES.data.toList = ([105,101,115],[],false,0):=by
  unfold wordR
  rw [wgo_more _ _ _ (by decide) (by decide),wgo_more _ _ _ (by decide) (by decide),wgo_more _ _ _ (by decide) (by decide),wgo_nil]
  rfl
 have ha : addR [105,101,115] = .ok tIES:=by kernel_rfl
 obtain ⟨x,hx⟩ : ∃ x,condOf [kSFX,⟨#[65]⟩,⟨#[121]⟩,tIES,tCND] = .ok x:=by
  have h : (match condOf [kSFX,⟨#[65]⟩,⟨#[121]⟩,tIES,tCND] with | .ok _=>true | .error _=>false) = true:=by kernel_rfl
  cases hc : condOf [kSFX,⟨#[65]⟩,⟨#[121]⟩,tIES,tCND] with
  | error e=>rw [hc] at h;cases h
  | ok x=>exact ⟨x,rfl⟩
 refine ⟨x,?_⟩
 dsimp only
 rw [hw]
 dsimp only
 rw [if_neg (by decide),ha]
 have hn : nextR F wakeC.kind [] false = .ok []:=rfl
 dsimp only
 rw [hn,hx]
 rfl
theorem wake_aff : ∃ r,affR wakeT.data.toList = .ok ⟨1,⟨#[]⟩,⟨#[]⟩,0,0,0,0,0,3,[],[],[wakeC],[r]⟩ ∧ r.add = tIES:=by
 obtain ⟨cond,hc⟩:=wake_rule { fl0 with cls:=[wakeC] }
 refine ⟨_,?_,show (⟨2,65,true,⟨#[121]⟩,tIES,cond,[],2⟩ : Rl).add = tIES from rfl⟩
 rw [affR_small _ (by decide),wake_rows,wake_lines]
 have hk : keyN (fieldAt [kSFX,⟨#[65]⟩,⟨#[89]⟩,⟨#[49]⟩] 0) = 12:=by kernel_rfl
 have hfr : freshR fl0 ⟨#[65]⟩ = .ok 65:=by kernel_rfl
 have hne : numErr (⟨#[49]⟩ : ByteArray).data.toList 1024 = 0:=by kernel_rfl
 have hnv : numVal (⟨#[49]⟩ : ByteArray).data.toList 1024 = 1:=by kernel_rfl
 have hcl : classR 3 ⟨fl0,[(2,[kSFX,⟨#[65]⟩,⟨#[121]⟩,tIES,tCND])],[],1⟩ [kSFX,⟨#[65]⟩,⟨#[89]⟩,⟨#[49]⟩] = .ok ⟨{ { fl0 with cls:=[wakeC] } with rls:=[⟨2,65,true,⟨#[121]⟩,tIES,cond,[],2⟩] },[],[],2⟩:=by
  unfold classR
  have h1 : fieldAt [kSFX,⟨#[65]⟩,⟨#[89]⟩,⟨#[49]⟩] 1 = ⟨#[65]⟩:=rfl
  have h2 : fieldAt [kSFX,⟨#[65]⟩,⟨#[89]⟩,⟨#[49]⟩] 2 = ⟨#[89]⟩:=rfl
  have h3 : fieldAt [kSFX,⟨#[65]⟩,⟨#[89]⟩,⟨#[49]⟩] 3 = ⟨#[49]⟩:=rfl
  have h0 : fieldAt [kSFX,⟨#[65]⟩,⟨#[89]⟩,⟨#[49]⟩] 0 = kSFX:=rfl
  rw [h1,h2,h3,h0,hfr]
  dsimp only
  rw [if_neg (by simp),hne,hnv,if_neg (by decide),if_neg (by decide)]
  show groupR 3 _ (ruleIn wakeC) 1 ⟨{ fl0 with cls:=[wakeC] },[(2,[kSFX,⟨#[65]⟩,⟨#[121]⟩,tIES,tCND])],[],1⟩ = _
  rw [groupR]
  dsimp only
  rw [if_pos (by decide)]
  unfold ruleIn
  rw [hc]
  rfl
 have hst : stepR 3 ⟨fl0,[(1,[kSFX,⟨#[65]⟩,⟨#[89]⟩,⟨#[49]⟩]),(2,[kSFX,⟨#[65]⟩,⟨#[121]⟩,tIES,tCND])],[],0⟩ 1 [kSFX,⟨#[65]⟩,⟨#[89]⟩,⟨#[49]⟩] [(2,[kSFX,⟨#[65]⟩,⟨#[121]⟩,tIES,tCND])] = .ok ⟨{ { fl0 with cls:=[wakeC] } with rls:=[⟨2,65,true,⟨#[121]⟩,tIES,cond,[],2⟩] },[],[kSFX],2⟩:=by
  unfold stepR
  rw [hk,if_neg (by decide),if_neg (by decide),if_neg (by decide)]
  have hh : headR 3 ⟨fl0,[(2,[kSFX,⟨#[65]⟩,⟨#[121]⟩,tIES,tCND])],[],1⟩ [kSFX,⟨#[65]⟩,⟨#[89]⟩,⟨#[49]⟩] 12 = _:=hcl
  rw [hh]
  rfl
 show affEnd (readGo 3 2 ⟨fl0,[(1,[kSFX,⟨#[65]⟩,⟨#[89]⟩,⟨#[49]⟩]),(2,[kSFX,⟨#[65]⟩,⟨#[121]⟩,tIES,tCND])],[],0⟩) = _
 rw [readGo]
 dsimp only
 rw [hst]
 rfl
end Go.Proofs.YtkdajhmlhjkcdaaGreatDoor
namespace Go.Proofs.YtkdajhmlhjkcdaaGreatDoor
open Go.RowKit Go.Maps
theorem one_of_map {rs : List (Rl × Value)} {r : Rl} (h : rs.map (·.1) = [r]) : ∃ u,rs = [(r,u)]:=by
 match rs,h with
 | [x],h=>exact ⟨x.2,by simp at h;rw [← h]⟩
set_option maxHeartbeats 4000000 in
set_option maxRecDepth 100000 in
theorem so_wakes (m0 : Int) (w : World) (h0 : 0 < w.heap.size) (hm : w.cell? ⟨0,0,none⟩ = some (.int .i64 m0)) :
  Calls Tryz.prog 14 #[] w fun e w'=>e = .returned (.bool true) ∧ Below w.heap.size w w':=by
 obtain ⟨r,hr,hra⟩:=wake_aff
 have HR:=so_affRead wakeT m0 w h0 hm
 unfold ReadP at HR
 rw [hr] at HR
 dsimp only at HR
 have HRd:=Lib.hid HR
 have HRa:=Lib.hid hra
 clear HR hr hra hm h0
 go_enter Tryz.func14,Tryz.ntmps14
 go_upto_region 4 with (go_at_call 12;refine HRd.out.mono ?_;rintro e w1 ⟨hb1,fb,rfl,hf,hok,hfb⟩;have HB1:=Lib.hid hb1;have HF1:=Lib.hid hf;have HOk:=Lib.hid hok;clear hb1 hf hok hfb)
 go_upto_region 5 with (go_at_call 16;refine (so_Affixes fb _ _ (HF1.out.keep ((Below.refl _ _).alloc (Nat.le_refl _) _)) HOk.out).mono ?_;rintro e w2 ⟨a,rfl,hn,hb2⟩;have HB2 : Hid (Below w.heap.size w w2):=Lib.hid (HB1.out.trans ((((Below.refl _ _).alloc (Nat.le_refl _) _).trans (hb2.mono (by simp))).mono HB1.out.size));obtain ⟨vr,va,vc,vl⟩:=a;obtain ⟨⟨-,Ar,kr,rfl,-⟩,⟨us,⟨-,Aa,ka,rfl,-⟩,-⟩,hcl,rs,hm,hrl,-⟩:=hn.rd;obtain ⟨u,rfl⟩:=one_of_map hm;obtain ⟨gl,ol,kl,rfl,hc⟩:=hrl.at_ (by simp);have d4 : w2.cell? ⟨gl,ol + 4,none⟩ = some (.string r.add):=hc 4 _ rfl;rw [HRa.out] at d4;have hgl:=World.block_lt_of_cell? _ _ d4;obtain ⟨-,Ac,kc,rfl,-⟩:=hcl;clear hn hm hrl hc hb2;unfold affV affA)
 go_wp2_with fail
 go_ret
 exact ⟨rfl,HB2.out.alloc HB2.out.size _⟩
end Go.Proofs.YtkdajhmlhjkcdaaGreatDoor
namespace Go.Proofs.YtkdajhmlhjkcdaaGreatDoor
open Go.RowKit Go.Maps
def LreadP (l : List UInt8) (w : World) (e : Ending) (w' : World) : Prop:=Below w.heap.size w w' ∧ match affR l with
 | .error _=>e = .returned (.tuple #[.pointer none,.pointer none,.bool true])
 | .ok F=>∃ fb rf,e = .returned (.tuple #[.pointer (some ⟨fb,0,none⟩),.pointer (some ⟨rf,0,none⟩),.bool true]) ∧ FileAt w' fb F ∧ QFileAt w' rf F ∧ FlOk F ∧ RfOk F ∧ w.heap.size ≤ fb ∧ w.heap.size ≤ rf
set_option maxHeartbeats 4000000 in
set_option maxRecDepth 100000 in
theorem so_lread (s : ByteArray) (m0 : Int) (w : World) (h0 : 0 < w.heap.size) (hm : w.cell? ⟨0,0,none⟩ = some (.int .i64 m0)) :
  Calls Tryz.prog 17 #[.string s] w (LreadP s.data.toList w):=by
 have HR:=Lib.hid (so_affRead s m0 w h0 hm)
 have HQ : Hid (∀ W,Calls Tryz.prog 13 #[.string s] W (RefP s.data.toList W)):=Lib.hid (fun W=>so_refAff s W)
 unfold ReadP at HR
 unfold RefP at HQ
 clear h0 hm
 unfold LreadP
 cases hr : affR s.data.toList with
 | error p =>
  obtain ⟨l,c⟩:=p
  have hc:=affR_err hr
  have hc0 : (c == 0) = false:=by rw [beq_eq_false_iff_ne];exact hc
  rw [hr] at HR HQ
  dsimp only at HR HQ
  unfold fltV at HR
  clear hr hc
  go_enter Tryz.func17,Tryz.ntmps17
  go_wp2_with fail
  refine HR.out.mono ?_
  rintro e w1 ⟨hb1,rfl⟩
  have HB1:=Lib.hid (hb1.alloc hb1.size (.cells #[.int .i64 1,.int .i64 l,.int .i64 c] 25))
  clear hb1
  go_wp2_with fail
  refine (HQ.out _).mono ?_
  rintro e w2 ⟨hb2,rfl⟩
  have HB2:=Lib.hid (HB1.out.trans (hb2.mono HB1.out.size))
  clear hb2
  go_wp2_with fail
  go_ret3
  exact ⟨HB2.out,by simp⟩
 | ok F =>
  have HRf:=Lib.hid (affR_rf hr)
  rw [hr] at HR HQ
  dsimp only at HR HQ
  clear hr
  go_enter Tryz.func17,Tryz.ntmps17
  go_wp2_with fail
  refine HR.out.mono ?_
  rintro e w1 ⟨hb1,fb,rfl,hf,hok,hfb⟩
  have HOk:=Lib.hid hok
  have HFb:=Lib.hid hfb
  have HB1:=Lib.hid (hb1.alloc hb1.size (.cells #[.int .i64 0,.int .i64 0,.int .i64 0] 25))
  have HF1:=Lib.hid (hf.keep ((Below.refl _ _).alloc (Nat.le_refl _) (.cells #[.int .i64 0,.int .i64 0,.int .i64 0] 25)))
  clear hb1 hf hok hfb
  go_wp2_with fail
  refine (HQ.out _).mono ?_
  rintro e w2 ⟨hb2,rf,rfl,hq,-,hrf⟩
  have HRf2 : Hid (w.heap.size ≤ rf):=Lib.hid (Nat.le_trans HB1.out.size hrf)
  have HB2:=Lib.hid (HB1.out.trans (hb2.mono HB1.out.size))
  have HF2:=Lib.hid (HF1.out.keep hb2)
  have HQ2:=Lib.hid hq
  clear hb2 hq hrf
  go_wp2_with fail
  go_ret3
  exact ⟨HB2.out,fb,rf,by simp,HF2.out,HQ2.out,HOk.out,HRf.out,HFb.out,HRf2.out⟩
end Go.Proofs.YtkdajhmlhjkcdaaGreatDoor
namespace Go.Proofs.YtkdajhmlhjkcdaaGreatDoor
open Go.RowKit Go.Maps
theorem FileAt.fileF {w : World} {fb : Nat} {F : Fl} (h : FileAt w fb F) (hok : FlOk F) : ∃ av us,FileF w fb F.kind av us F.als:=by
 obtain ⟨i,v,n,h0,h1,-,-,⟨us,h2,h3,h4⟩,-⟩:=h.mem
 exact ⟨v.als,us,by rw [Lib.cell_of_heap h1];rfl,by rw [Lib.cell_of_heap h1];rfl,h2,h4,fun a ha=>⟨(hok.sets a ha).1,canon_len (hok.sets a ha).1 (hok.sets a ha).2⟩⟩
theorem IS.io {w : World} {v : Value} {zs : List Int} (h : IS w v zs) : IO w [] v zs:=by
 obtain ⟨p,c,hv,hc,h2⟩:=h
 exact ⟨p,c,hv,hc,h2.imp id (fun ⟨b,off,hp,h3⟩=>⟨b,off,hp,by simp,h3⟩)⟩
theorem QFileAt.qfl {w : World} {rf : Nat} {F : Fl} (h : QFileAt w rf F) : QFl w [] rf F:=by
 obtain ⟨v,h1,-,⟨us,h2,h3,h4⟩,-⟩:=h
 exact ⟨by rw [Lib.cell_of_heap h1];rfl,v.als,us,by rw [Lib.cell_of_heap h1];rfl,h2,h3,fun k u b hu hb=>(h4 k u b hu hb).io⟩
theorem so_lFlags (fb : Nat) (F : Fl) (s : ByteArray) (m0 : Int) (w : World) (h : FileAt w fb F) (hok : FlOk F) (hs : s.size ≤ 1048576) (hm : w.cell? ⟨0,0,none⟩ = some (.int .i64 m0)) :
  Calls Tryz.prog 21 #[.pointer (some ⟨fb,0,none⟩),.string s] w fun e w'=>∃ v,e = .returned (.tuple #[v,.int .i64 (flagsR F s).2]) ∧ FN w.heap.size w' v (flagsR F s).1 ∧ Below w.heap.size w w':=by
 obtain ⟨av,us,hf⟩:=h.fileF hok
 have:=so_fileFlags fb F.kind m0 av us F.als s w hf hok.als (by omega) hm
 rw [← flagsR_eq] at this
 exact this
theorem so_lqFlags (rf : Nat) (F : Fl) (s : ByteArray) (w : World) (h : QFileAt w rf F) (hok : FlOk F) (hs : s.size ≤ 1048576) :
  Calls Tryz.prog 22 #[.pointer (some ⟨rf,0,none⟩),.string s] w fun e w'=>∃ v,e = .returned (.tuple #[v,.int .i64 (flagsR F s).2]) ∧ IS w' v (flagsR F s).1 ∧ Below w.heap.size w w' :=
 (so_qFlags [] rf F s w h.qfl (by simp) hok.als (by omega)).mono (by
  rintro e w' ⟨v,rfl,hv,hb⟩
  exact ⟨v,rfl,hv.is,hb⟩)
theorem FlOk.flags_bd {F : Fl} (h : FlOk F) (s : ByteArray) : (∀ x ∈ (flagsR F s).1,0 ≤ x ∧ x ≤ 65535) ∧ (flagsR F s).1.length ≤ 65536:=by
 have h1:=flagsR_bd F s (fun a ha=>(h.sets a ha).2)
 exact ⟨h1,canon_len (flagsR_canon F s (fun a ha=>(h.sets a ha).1)) h1⟩
end Go.Proofs.YtkdajhmlhjkcdaaGreatDoor
namespace Go.Proofs.YtkdajhmlhjkcdaaGreatDoor
open Go.RowKit Go.Maps
theorem lint_info : (Tryz.prog.info? 3).map (fun i=>(i.zero,i.size,i.bytes)) = some (some (.int .i64 0),1,8):=by kernel_rfl
set_option maxHeartbeats 2000000 in
set_option maxRecDepth 100000 in
theorem so_lints (v : Value) (zs : List Int) (w : World) (h : FS w v zs) (hbd : ∀ x ∈ zs,0 ≤ x ∧ x ≤ 65535) (hbig : zs.length * 8 ≤ 140737488355328) :
  Calls Tryz.prog 29 #[v] w fun e w'=>∃ v',e = .returned v' ∧ IS w' v' zs ∧ Below w.heap.size w w':=by
 obtain ⟨i0,hi,hz0,hz1,hz2⟩:=info_parts lint_info
 obtain ⟨p,c,rfl,hcap,hs⟩:=h
 have hS:=Lib.hid hs
 have hD:=Lib.hid hbd
 clear hs hbd
 go_enter Tryz.func29,Tryz.ntmps29
 go_wp2_with fail
 go_loopw [3,5,8] (fun s _ i wr=>∃ k : Nat,k ≤ zs.length ∧ i = .int .i64 k ∧ Hid (wr.ownsRow w.heap.size 3 1 s k ((zs.take k).map (Value.int .i64))) ∧ Hid (Below w.heap.size w wr)) (fun _ _ i _=>zs.length - (intOf i).toNat)
 case atStart=>exact ⟨0,Nat.zero_le _,rfl,World.ownsRow_nil _ _ _ _,Below.refl _ _⟩
 case round =>
 obtain ⟨k,hk,rfl,HO,HB⟩:=hrel
 have hsz:=HB.out.size
 by_cases hlt : k < zs.length
 ·obtain ⟨b,off,rfl,hc⟩:=hS.out.resolve_left (by omega)
  have c0:=hc k hlt
  have hcell:=(HB.out.cell (World.block_lt_of_cell? w _ c0)).trans c0
  have he : zs.getD k 0 = zs[k]:=by simp [List.getD,hlt]
  rw [he] at hcell
  obtain ⟨z0,z1⟩:=hD.out zs[k] (List.getElem_mem hlt)
  have HM:=Lib.hid (show (zs.take (k + 1)).map (Value.int .i64) = (zs.take k).map (Value.int .i64) ++ [Value.int .i64 zs[k]] by rw [List.take_add_one,List.getElem?_eq_getElem hlt,List.map_append];rfl)
  clear hc c0 he
  generalize hz : zs[k] = z at *
  clear hz
  go_wp2_with (at_builtin;refine wpList_push1 rfl _ _ 60 rfl w.heap.size 3 i0 (.int .i64 0) 8 Tryz.underlying60 hi hz0 hz1 hz2 rfl _ k _ rfl HO.out _ rfl rfl ?c3 ?c4 hsz ?_)
  case c3=>unfold maxLen;omega
  case c4=>omega
  intro gg cap w2 hown hg
  have HO2:=Lib.hid hown
  have HB2:=Lib.hid (below_push HB.out HO.out hg (Nat.le_refl _) hsz)
  clear hown hg
  go_wp2_with fail
  go_roundw
  case rel=>exact ⟨k + 1,by omega,by go_num,(by show World.ownsRow _ _ _ _ _ _ _;rw [HM.out,List.map_take];exact HO2.out),HB2.out⟩
  case measure=>simp [intOf];omega
 have hke : k = zs.length:=by omega
 subst hke
 rw [List.take_length] at HO
 go_wp2_with fail
 go_ret
 exact ⟨_,rfl,IS.of_own (e:=3) HO.out,HB.out⟩
end Go.Proofs.YtkdajhmlhjkcdaaGreatDoor
namespace Go.Proofs.YtkdajhmlhjkcdaaGreatDoor
open Go.RowKit
theorem so_lwakes (m0 : Int) (w : World) (h0 : 0 < w.heap.size) (hm : w.cell? ⟨0,0,none⟩ = some (.int .i64 m0)) :
 Calls Tryz.prog 14 #[] w fun e w'=>e = .returned (.bool true) ∧ Below w.heap.size w w':=so_wakes m0 w h0 hm
end Go.Proofs.YtkdajhmlhjkcdaaGreatDoor
namespace Go.Proofs.YtkdajhmlhjkcdaaGreatDoor
open Go.RowKit
set_option maxHeartbeats 1000000 in
theorem so_rHas (v : Value) (zs : List Int) (x : Int) (w : World) (h : IS w v zs) (hbig : zs.length ≤ 4611686018427387904) :
  Calls Tryz.prog 28 #[v,.int .i64 x] w fun e w'=>e = .returned (.bool (zs.contains x)) ∧ w' = w:=by
 obtain ⟨p,c,rfl,hcap,hs⟩:=h
 have hS:=Lib.hid hs
 clear hs
 generalize hr : zs.contains x = r
 have HRR:=Lib.hid hr
 clear hr
 go_enter Tryz.func28,Tryz.ntmps28
 go_wp2
 go_loop [5] (fun i=>∃ k : Nat,k ≤ zs.length ∧ i = .int .i64 k ∧ Hid (∀ j,j < k → zs.getD j 0 ≠ x)) (fun i=>zs.length - (intOf i).toNat)
 case atStart=>exact ⟨0,Nat.zero_le _,rfl,fun j hj=>absurd hj (Nat.not_lt_zero _)⟩
 case round =>
 obtain ⟨k,hk,rfl,HN⟩:=hrel
 by_cases hlt : k < zs.length
 ·obtain ⟨b,off,rfl,hc⟩:=hS.out.resolve_left (by omega)
  have hcell:=hc k hlt
  generalize hz : zs.getD k 0 = z at hcell
  have HZ:=Lib.hid hz
  clear hc hz
  cases hq : (z == x)
  ·go_wp2
   go_roundw
   case rel =>
    refine ⟨k + 1,by omega,by go_num,fun j hj=>?_⟩
    by_cases e : j = k
    ·subst e;rw [HZ.out];intro e;rw [e] at hq;simp at hq
    exact HN.out j (by omega)
   case measure=>simp [intOf];omega
  have hfin:=Lib.hid (show zs.contains x = true by
   have e : zs.getD k 0 = zs[k]:=by simp [List.getD,hlt]
   have h1:=HZ.out
   rw [e] at h1
   rw [contains_iff,← beq_iff_eq.1 hq,← h1];exact List.getElem_mem hlt)
  go_wp2
  go_ret
  exact ⟨by rw [← HRR.out,hfin.out];rfl,rfl⟩
 have hke : k = zs.length:=by omega
 subst hke
 have hfin:=Lib.hid (show zs.contains x = false by
  cases hq : zs.contains x
  ·rfl
  obtain ⟨j,hj,hjx⟩:=List.getElem_of_mem ((contains_iff _ _).1 hq)
  exact absurd (by simp [List.getD,hj,hjx]) (HN.out j hj))
 go_wp2
 go_ret
 exact ⟨by rw [← HRR.out,hfin.out];rfl,rfl⟩
end Go.Proofs.YtkdajhmlhjkcdaaGreatDoor
namespace Go.Proofs.YtkdajhmlhjkcdaaGreatDoor
open Go.RowKit Go.Maps
theorem so_AffixesE (fb : Nat) (F : Fl) (w : World) (h : FileAt w fb F) (hok : FlOk F) :
  Calls Tryz.prog 16 #[.pointer (some ⟨fb,0,none⟩)] w fun e w'=>∃ Ar nr kr Aa na ka Ac nc kc Al nl kl,e = .returned (.agg #[.int .i64 F.kind,.string F.charset,.string F.tryT,.int .u16 F.s0,.int .u16 F.s1,.int .u16 F.s2,.int .u16 F.s3,.int .u16 F.s4,.int .i64 F.least,.slice Ar nr kr,.slice Aa na ka,.slice Ac nc kc,.slice Al nl kl]) ∧
   AffZ w.heap.size w' F ⟨.slice Ar nr kr,.slice Aa na ka,.slice Ac nc kc,.slice Al nl kl⟩ ∧ Below w.heap.size w w' :=
 (so_AffixesZ fb F w h hok).mono (by
  rintro e w' ⟨⟨vr,va,vc,vl⟩,rfl,hz,hb⟩
  have hz2:=hz
  obtain ⟨B1,B2,B3,B4,us,rs,-,-,h1,⟨h2,-,-⟩,h5,-,h7,-⟩:=hz2
  obtain ⟨Ar,kr,e1⟩:=own_slice h1
  obtain ⟨Aa,ka,e2⟩:=own_slice h2
  obtain ⟨Ac,kc,e3⟩:=own_slice h5
  obtain ⟨Al,kl,e4⟩:=own_slice h7
  dsimp only at e1 e2 e3 e4
  subst e1 e2 e3 e4
  exact ⟨Ar,_,kr,Aa,_,ka,Ac,_,kc,Al,_,kl,rfl,hz,hb⟩)
structure KA (w2 W : World) (F : Fl) (x : Nat) (M : Marks) (Ar Aa Ac Al : Option Addr) (kr ka kc kl : Nat) (us : List Value) (rs : List (Rl × Value)) (b : AV) (w3 : World) : Prop where
 b0 : M.b0 = w2.heap.size
 kb : KB M W F Ar Aa Ac Al us rs
 cx : W.heap[x]? = some (.cells (affA F ⟨.slice Ar F.reps.length kr,.slice Aa F.als.length ka,.slice Ac F.cls.length kc,.slice Al rs.length kl⟩) 41 (0,0))
 cy : W.heap[x + 1]? = some (.cells (affA F b) 41 (0,0))
 bn : AffN M.b5 w3 F b
 b5 : M.b5 ≤ w3.heap.size
 x3 : w3.heap.size = x
 below : Below w3.heap.size w3 W
 base : Below w2.heap.size w2 W
theorem KA.of {w2 wa w3 : World} {F : Fl} {Ar Aa Ac Al : Option Addr} {nr na nc nl kr ka kc kl : Nat} {b : AV} (hz : AffZ w2.heap.size wa F ⟨.slice Ar nr kr,.slice Aa na ka,.slice Ac nc kc,.slice Al nl kl⟩) (ha : Below w2.heap.size w2 wa) (hy : AffZ wa.heap.size w3 F b) (h3 : Below wa.heap.size wa w3) :
  ∃ M us rs,KA w2 ((w3.alloc (.cells (affA F ⟨.slice Ar nr kr,.slice Aa na ka,.slice Ac nc kc,.slice Al nl kl⟩) 41)).alloc (.cells (affA F b) 41)) F w3.heap.size M Ar Aa Ac Al kr ka kc kl us rs b w3:=by
 obtain ⟨M,us,rs,e0,e5,hk,rfl,rfl,rfl,rfl⟩:=hz.kb
 have hb : Below w3.heap.size w3 ((w3.alloc (.cells (affA F ⟨.slice Ar F.reps.length kr,.slice Aa F.als.length ka,.slice Ac F.cls.length kc,.slice Al rs.length kl⟩) 41)).alloc (.cells (affA F b) 41)):=((Below.refl _ _).alloc (Nat.le_refl _) _).alloc (by simp) _
 have h4 : Below wa.heap.size wa ((w3.alloc (.cells (affA F ⟨.slice Ar F.reps.length kr,.slice Aa F.als.length ka,.slice Ac F.cls.length kc,.slice Al rs.length kl⟩) 41)).alloc (.cells (affA F b) 41)):=h3.trans (hb.mono h3.size)
 have h5:=heap_alloc_new w3 (.cells (affA F ⟨.slice Ar F.reps.length kr,.slice Aa F.als.length ka,.slice Ac F.cls.length kc,.slice Al rs.length kl⟩) 41)
 have h6:=heap_alloc_new (w3.alloc (.cells (affA F ⟨.slice Ar F.reps.length kr,.slice Aa F.als.length ka,.slice Ac F.cls.length kc,.slice Al rs.length kl⟩) 41)) (.cells (affA F b) 41)
 rw [World.size_alloc] at h6
 exact ⟨M,us,rs,e0,hk.keep h4,(Below.heap_alloc _ _ _ (by simp)).trans h5,h6,by rw [e5];exact hy.n,by rw [e5];exact h3.size,rfl,hb,ha.trans (h4.mono ha.size)⟩
theorem replicate_has (n : Nat) (x : Int) : (List.replicate n x).contains x = decide (0 < n):=by
 cases n with
 | zero=>rfl
 | succ n=>simp [List.replicate_succ]
set_option maxHeartbeats 16000000 in
set_option maxRecDepth 100000 in
theorem affKeeps_walk (t s : ByteArray) (m0 : Int) (w : World) (h0 : 0 < w.heap.size) (hm : w.cell? ⟨0,0,none⟩ = some (.int .i64 m0)) (hs : s.size ≤ 1048576) :
  Calls Tryz.prog 8 #[.string t,.string s] w fun e w'=>e = .returned (.bool true) ∧ Below w.heap.size w w':=by
 have HR:=Lib.hid (so_lread t m0 w h0 hm)
 have HMx : Hid (∀ W,Below w.heap.size w W → W.cell? ⟨0,0,none⟩ = some (.int .i64 m0)):=Lib.hid (fun W hW=>(hW.cell (World.block_lt_of_cell? _ _ hm)).trans hm)
 have HW : Hid (∀ W,Below w.heap.size w W → Calls Tryz.prog 14 #[] W fun e w'=>e = .returned (.bool true) ∧ Below W.heap.size W w'):=Lib.hid (fun W hW=>so_lwakes m0 W (Nat.lt_of_lt_of_le h0 hW.size) (HMx.out W hW))
 unfold LreadP at HR
 have HSz:=Lib.hid hs
 clear h0 hm hs
 cases hr : affR t.data.toList with
 | error p2 =>
  rw [hr] at HR
  dsimp only at HR
  clear hr
  go_enter Tryz.func8,Tryz.ntmps8
  go_wp2_with (first
   | (go_at_call 17;refine HR.out.mono ?_;rintro e w1 ⟨hb1,rfl⟩;have HB1:=Lib.hid hb1;clear hb1)
   | (go_at_call 14;refine (HW.out _ HB1.out).mono ?_;rintro e w2 ⟨rfl,hb2⟩;have HB2:=Lib.hid (HB1.out.trans (hb2.mono HB1.out.size));clear hb2))
  go_ret
  exact ⟨rfl,HB2.out⟩
 | ok F =>
  rw [hr] at HR
  dsimp only at HR
  clear hr
  go_enter Tryz.func8,Tryz.ntmps8
  go_upto_region 2 with (go_at_call 17;refine HR.out.mono ?_;rintro e w1 ⟨hb1,fb,rf,rfl,hfa,hqa,hok,hrf,-,-⟩;have HB1:=Lib.hid hb1;have HFa:=Lib.hid hfa;have HQa:=Lib.hid hqa;have HOk:=Lib.hid hok;have HRf:=Lib.hid hrf;clear hb1 hfa hqa hok hrf)
  go_upto_region 6 with (go_at_call 14;refine (HW.out _ HB1.out).mono ?_;rintro e w2 ⟨rfl,hb2⟩;have HB2:=Lib.hid (HB1.out.trans (hb2.mono HB1.out.size));have HF2:=Lib.hid (HFa.out.keep hb2);have HQ2:=Lib.hid (HQa.out.keep hb2);clear hb2)
  have HA2:=Lib.hid (so_AffixesE fb F w2 HF2.out HOk.out)
  have HA3 : Hid (∀ W,Below w2.heap.size w2 W → Calls Tryz.prog 16 #[.pointer (some ⟨fb,0,none⟩)] W fun e w'=>∃ Ar nr kr Aa na ka Ac nc kc Al nl kl,e = .returned (.agg #[.int .i64 F.kind,.string F.charset,.string F.tryT,.int .u16 F.s0,.int .u16 F.s1,.int .u16 F.s2,.int .u16 F.s3,.int .u16 F.s4,.int .i64 F.least,.slice Ar nr kr,.slice Aa na ka,.slice Ac nc kc,.slice Al nl kl]) ∧
   AffZ W.heap.size w' F ⟨.slice Ar nr kr,.slice Aa na ka,.slice Ac nc kc,.slice Al nl kl⟩ ∧ Below W.heap.size W w'):=Lib.hid (fun W hW=>so_AffixesE fb F W (HF2.out.keep hW) HOk.out)
  go_cut [8,9] from 39 to 42 (fun p q W=>∃ (x : Nat) (M : Marks) (Ar Aa Ac Al : Option Addr) (kr ka kc kl : Nat) (us : List Value) (rs : List (Rl × Value)) (b : AV) (w3 : World),p = .pointer (some ⟨x,0,none⟩) ∧ q = .pointer (some ⟨x + 1,0,none⟩) ∧ Hid (KA w2 W F x M Ar Aa Ac Al kr ka kc kl us rs b w3))
  case first =>
   go_wp2_with fail
   refine HA2.out.mono ?_
   rintro e wa ⟨Ar,nr,kr,Aa,na,ka,Ac,nc,kc,Al,nl,kl,rfl,hz,hba⟩
   have HZ:=Lib.hid hz
   have HBa:=Lib.hid hba
   clear hz hba
   go_wp2_with fail
   refine (HA3.out wa HBa.out).mono ?_
   rintro e w3 ⟨Br,mr,jr,Ba,ma,ja,Bc,mc,jc,Bl,ml,jl,rfl,hz,hb3⟩
   have HY:=Lib.hid hz
   have HB3:=Lib.hid hb3
   clear hz hb3
   go_wp2_with fail
   go_meet
   obtain ⟨M,us,rs,hk⟩:=KA.of HZ.out HBa.out HY.out HB3.out
   exact ⟨w3.heap.size,M,Ar,Aa,Ac,Al,kr,ka,kc,kl,us,rs,⟨.slice Br mr jr,.slice Ba ma ja,.slice Bc mc jc,.slice Bl ml jl⟩,w3,rfl,rfl,Lib.hid hk⟩
  case rest =>
  obtain ⟨x,M,Ar,Aa,Ac,Al,kr,ka,kc,kl,us,rs,b,w3,rfl,rfl,HK⟩:=hcut
  obtain ⟨w4,hw4⟩ : ∃ W : World,W = wc:=⟨_,rfl⟩
  rw [← hw4] at HK ⊢
  clear hw4 wc HA2 HA3
  have HB4:=Lib.hid (HB2.out.trans (HK.out.base.mono HB2.out.size))
  have HFl:=Lib.hid (so_lFlags fb F s m0 w4 (HF2.out.keep HK.out.base) HOk.out HSz.out (HMx.out _ HB4.out))
  obtain ⟨f1,f2⟩:=HOk.out.flags_bd s
  obtain ⟨⟨zs,ec⟩,hz⟩ : ∃ r,flagsR F s = r:=⟨_,rfl⟩
  have HFg : Hid (∀ W,FileAt W fb F → Below w.heap.size w W → Calls Tryz.prog 21 #[.pointer (some ⟨fb,0,none⟩),.string s] W fun e w'=>∃ v,e = .returned (.tuple #[v,.int .i64 ec]) ∧ FN W.heap.size w' v zs ∧ Below W.heap.size W w'):=Lib.hid (fun W hf hW=>by
   have:=so_lFlags fb F s m0 W hf HOk.out HSz.out (HMx.out _ hW)
   rw [hz] at this;exact this)
  have HQg : Hid (∀ W,QFileAt W rf F → Calls Tryz.prog 22 #[.pointer (some ⟨rf,0,none⟩),.string s] W fun e w'=>∃ v,e = .returned (.tuple #[v,.int .i64 ec]) ∧ IS w' v zs ∧ Below W.heap.size W w'):=Lib.hid (fun W hq=>by
   have:=so_lqFlags rf F s W hq HOk.out HSz.out
   rw [hz] at this;exact this)
  rw [hz] at HFl f1 f2
  dsimp only at HFl f1 f2
  have HZ:=Lib.hid (⟨f1,f2⟩ : _ ∧ _)
  clear hz f1 f2
  go_wp2_with fail
  refine HFl.out.mono ?_
  rintro e w5 ⟨v5,rfl,hfn,hb5⟩
  obtain ⟨n,hn⟩ : ∃ n,zs.length = n:=⟨_,rfl⟩
  have HNz:=Lib.hid hn
  have hsl:=SlL.of_fn hfn hfn.inB
  rw [hn] at hsl
  have HSl:=Lib.hid hsl
  obtain ⟨p5,c5,rfl,hc5,-⟩:=hsl
  have HB5:=Lib.hid (HB4.out.trans (hb5.mono HB4.out.size))
  have HL5:=Lib.hid hb5
  have HKB5:=Lib.hid (HK.out.kb.keep hb5)
  have hX5:=(hb5.block _ (block_lt HK.out.cx)).trans HK.out.cx
  obtain ⟨nr,hnr⟩ : ∃ n,F.reps.length = n:=⟨_,rfl⟩
  obtain ⟨na,hna⟩ : ∃ n,F.als.length = n:=⟨_,rfl⟩
  obtain ⟨nc,hnc⟩ : ∃ n,F.cls.length = n:=⟨_,rfl⟩
  obtain ⟨nl,hnl⟩ : ∃ n,rs.length = n:=⟨_,rfl⟩
  have HNr:=Lib.hid hnr
  have HNa:=Lib.hid hna
  have HNc:=Lib.hid hnc
  have HNl:=Lib.hid hnl
  rw [hnr,hna,hnc,hnl] at hX5
  have c9 : w5.cell? ⟨x,9,none⟩ = some (.slice Ar nr kr):=Lib.cell_of_heap hX5 9
  have HCe : Hid (∀ W,Mkd M.b0 M.b5 w5 W → W.cell? ⟨x,9,none⟩ = some (.slice Ar nr kr) ∧ W.cell? ⟨x,10,none⟩ = some (.slice Aa na ka) ∧ W.cell? ⟨x,11,none⟩ = some (.slice Ac nc kc) ∧ W.cell? ⟨x,12,none⟩ = some (.slice Al nl kl)):=Lib.hid (fun W hW=>by
   have hx : M.b5 ≤ x:=by have h1:=HK.out.b5;have h2:=HK.out.x3;omega
   exact ⟨hW.cell (Lib.cell_of_heap hX5 9) (.inr hx),hW.cell (Lib.cell_of_heap hX5 10) (.inr hx),hW.cell (Lib.cell_of_heap hX5 11) (.inr hx),hW.cell (Lib.cell_of_heap hX5 12) (.inr hx)⟩)
  have hok:=HKB5.out.ok
  have o1:=hok.h1
  have o2:=hok.h2
  have o3:=hok.h3
  have o4:=hok.h4
  have o5:=hok.h5
  have hbig : nr ≤ 65536 ∧ na ≤ 65536 ∧ nc ≤ 65536 ∧ nl ≤ 65536 ∧ n ≤ 65536:=⟨by rw [← hnr];exact HOk.out.reps,by rw [← hna];exact HOk.out.als,by rw [← hnc];exact HOk.out.cls,by rw [← hnl,← List.length_map (f:=fun r : Rl × Value=>r.1),HKB5.out.rmap];exact HOk.out.rls,by rw [← hn];exact HZ.out.2⟩
  obtain ⟨g1,g2,g3,g4,g5⟩:=hbig
  clear hb5 hfn hn hnr hna hnc hnl hok hX5 HFl
  go_wp2_with fail
  go_loopw [12,52] (fun _ y wr=>∃ k : Nat,k ≤ nr ∧ y = .int .i64 k ∧ Hid (KB M wr F Ar Aa Ac Al us rs) ∧ Hid (Mkd M.b0 M.b5 w5 wr)) (fun _ y _=>nr - (intOf y).toNat)
  case atStart=>exact ⟨0,Nat.zero_le _,rfl,HKB5,Lib.hid (Mkd.refl _ _ _)⟩
  case round =>
  obtain ⟨k,hk,rfl,HKr,HMr⟩:=hrel
  clear c9
  by_cases hlt : k < nr
  ·obtain ⟨g,rfl,q1,q2,q3⟩:=HKr.out.reps.resolve_left (by rw [HNr.out];omega)
   obtain ⟨⟨u0,d0⟩,z0⟩:=q3 (k * 2) (by rw [HNr.out];omega)
   have c9:=(HCe.out wr HMr.out).1
   clear q3
   go_wp2_with fail
   go_roundw
   case rel=>exact ⟨k + 1,by omega,by go_num,Lib.hid (HKr.out.set g (k * 2) _ q1 (by omega) (.inl q2) (.inl (by omega))),Lib.hid (HMr.out.set g (k * 2) _ q1 (by omega))⟩
   case measure=>simp [intOf];omega
  obtain rfl : k = nr:=by omega
  obtain ⟨w6,hw6⟩ : ∃ W : World,W = wr:=⟨_,rfl⟩
  rw [← hw6] at HKr HMr ⊢
  clear hw6 wr
  have c10:=(HCe.out w6 HMr.out).2.1
  have HA6 : Hid (AM w6 F us 0):=Lib.hid (fun k u b hk _ _=>absurd hk (Nat.not_lt_zero _))
  go_wp2_with fail
  go_loopw [13,14,64] (fun _ _ y wr=>∃ i : Nat,i ≤ na ∧ y = .int .i64 i ∧ Hid (KB M wr F Ar Aa Ac Al us rs) ∧ Hid (Mkd M.b0 M.b5 w5 wr) ∧ Hid (AM wr F us i)) (fun _ _ y _=>na - (intOf y).toNat)
  case atStart=>exact ⟨0,Nat.zero_le _,rfl,HKr,HMr,HA6⟩
  case round =>
  clear HKr HMr HA6 c10
  obtain ⟨i,hi,rfl,HKr,HMr,HAr⟩:=hrel
  obtain ⟨w7,hw7⟩ : ∃ W : World,W = wr:=⟨_,rfl⟩
  rw [← hw7] at HKr HMr HAr ⊢
  clear hw7 wr
  have c10:=(HCe.out w7 HMr.out).2.1
  by_cases hlt : i < na
  ·obtain ⟨gA,rfl,-,-,qa⟩:=HKr.out.als.resolve_left (by rw [HNa.out];omega)
   have hiu : i < us.length:=by rw [HKr.out.len,HNa.out];exact hlt
   have hib : i < F.als.length:=by rw [HNa.out];exact hlt
   have HUi:=Lib.hid (List.getElem?_eq_getElem hiu)
   have HBi:=Lib.hid (List.getElem?_eq_getElem hib)
   obtain ⟨u,hu⟩ : ∃ u,us[i] = u:=⟨_,rfl⟩
   obtain ⟨bb,hbb⟩ : ∃ b,F.als[i] = b:=⟨_,rfl⟩
   rw [hu] at HUi
   rw [hbb] at HBi
   have hbm : bb.length ≤ 65536:=by
    have h1:=HOk.out.sets bb (by rw [← hbb];exact List.getElem_mem hib)
    exact canon_len h1.1 h1.2
   have HSi:=Lib.hid (HKr.out.ael i u bb HUi.out HBi.out)
   obtain ⟨p,c,rfl,hcap,-⟩:=HSi.out
   have HDk : Hid (∀ W,KB M W F Ar (some ⟨gA,0,none⟩) Ac Al us rs → W.cell? ⟨gA,i,none⟩ = some (.slice p bb.length c)):=Lib.hid (fun W hW=>hW.ah i _ gA HUi.out rfl)
   have HSk : Hid (∀ W,KB M W F Ar (some ⟨gA,0,none⟩) Ac Al us rs → SlL W M.b2 M.b3 (.slice p bb.length c) bb.length):=Lib.hid (fun W hW=>hW.ael i _ bb HUi.out HBi.out)
   have dk:=HDk.out w7 HKr.out
   obtain ⟨m,hm⟩ : ∃ m,bb.length = m:=⟨_,rfl⟩
   have HBm:=Lib.hid hm
   rw [hm] at dk HDk HSk hbm hcap HUi
   clear hu hbb hm qa HSi hiu hib
   go_wp2_with fail
   go_loopw [14,73] (fun _ y wr=>∃ j : Nat,j ≤ m ∧ y = .int .i64 j ∧ Hid (KB M wr F Ar (some ⟨gA,0,none⟩) Ac Al us rs) ∧ Hid (Mkd M.b0 M.b5 w5 wr) ∧ Hid (AM wr F us i) ∧ Hid (Mk wr 50001 (.slice p m c) j)) (fun _ y _=>m - (intOf y).toNat)
   case atStart=>exact ⟨0,Nat.zero_le _,rfl,HKr,HMr,HAr,Lib.hid (Mk.zero _ _ _)⟩
   case round =>
   clear HKr HMr HAr c10 dk
   obtain ⟨j,hj,rfl,HKr,HMr,HAr,HMk⟩:=hrel
   have c10:=(HCe.out wr HMr.out).2.1
   have dk:=HDk.out wr HKr.out
   by_cases hjl : j < m
   ·obtain ⟨p',c',e1,-,q⟩:=HSk.out wr HKr.out
    cases e1
    obtain ⟨g,o,rfl,q1,q2,q3⟩:=q.resolve_left (by have:=HBm.out;omega)
    obtain ⟨⟨u0,d0⟩,z0⟩:=q3 j (by have:=HBm.out;omega)
    clear q q3
    go_wp2_with fail
    go_roundw
    case rel=>exact ⟨j + 1,by omega,by go_num,Lib.hid (HKr.out.set g (o + j) _ (by omega) (by omega) (.inr q1) (.inl q2)),Lib.hid (HMr.out.set g (o + j) _ (by omega) (by omega)),Lib.hid (HAr.out.mark _),Lib.hid (HMk.out.step ⟨u0,d0⟩)⟩
    case measure=>simp [intOf];omega
   obtain rfl : j = m:=by omega
   go_wp2_with fail
   go_roundw
   case rel=>exact ⟨i + 1,by omega,by go_num,HKr,HMr,Lib.hid (HAr.out.step HUi.out HBi.out (by rw [HBm.out];exact HMk.out))⟩
   case measure=>simp [intOf];omega
  obtain rfl : i = na:=by omega
  have c11:=(HCe.out w7 HMr.out).2.2.1
  go_wp2_with fail
  go_loopw [15,88] (fun _ y wr=>∃ k : Nat,k ≤ nc ∧ y = .int .i64 k ∧ Hid (KB M wr F Ar Aa Ac Al us rs) ∧ Hid (Mkd M.b0 M.b5 w5 wr) ∧ Hid (AM wr F us i)) (fun _ y _=>nc - (intOf y).toNat)
  case atStart=>exact ⟨0,Nat.zero_le _,rfl,HKr,HMr,HAr⟩
  case round =>
  clear HKr HMr HAr c10 c11
  obtain ⟨k3,hk3,rfl,HKr,HMr,HAr⟩:=hrel
  by_cases hlt3 : k3 < nc
  ·obtain ⟨g,rfl,q1,q2,q3⟩:=HKr.out.cls.resolve_left (by rw [HNc.out];omega)
   obtain ⟨⟨u0,d0⟩,z0⟩:=q3 (k3 * 5 + 4) (by rw [HNc.out];omega)
   have c11:=(HCe.out wr HMr.out).2.2.1
   clear q3
   go_wp2_with fail
   go_roundw
   case rel=>exact ⟨k3 + 1,by omega,by go_num,Lib.hid (HKr.out.set g (k3 * 5 + 4) _ q1 (by omega) (.inl q2) (.inl (by omega))),Lib.hid (HMr.out.set g (k3 * 5 + 4) _ q1 (by omega)),Lib.hid (HAr.out.other HKr.out g (k3 * 5 + 4) _ (.inl (by omega)))⟩
   case measure=>simp [intOf];omega
  obtain rfl : k3 = nc:=by omega
  obtain ⟨w8,hw8⟩ : ∃ W : World,W = wr:=⟨_,rfl⟩
  rw [← hw8] at HKr HMr HAr ⊢
  clear hw8 wr
  have c12:=(HCe.out w8 HMr.out).2.2.2
  go_wp2_with fail
  go_loopw [16,17,100] (fun _ _ y wr=>∃ k : Nat,k ≤ nl ∧ y = .int .i64 k ∧ Hid (KB M wr F Ar Aa Ac Al us rs) ∧ Hid (Mkd M.b0 M.b5 w5 wr) ∧ Hid (AM wr F us i)) (fun _ _ y _=>nl - (intOf y).toNat)
  case atStart=>exact ⟨0,Nat.zero_le _,rfl,HKr,HMr,HAr⟩
  case round =>
  clear HKr HMr HAr c12
  obtain ⟨k4,hk4,rfl,HKr,HMr,HAr⟩:=hrel
  obtain ⟨w9,hw9⟩ : ∃ W : World,W = wr:=⟨_,rfl⟩
  rw [← hw9] at HKr HMr HAr ⊢
  clear hw9 wr
  have c12:=(HCe.out w9 HMr.out).2.2.2
  by_cases hlt4 : k4 < nl
  ·obtain ⟨gL,rfl,l1,l2,l3⟩:=HKr.out.rls.resolve_left (by rw [HNl.out];omega)
   have hku : k4 < rs.length:=by rw [HNl.out];exact hlt4
   have HL4 : Hid (∀ W,Mkd M.b0 M.b5 w5 W → KB M W F Ar Aa Ac (some ⟨gL,0,none⟩) us rs → (∃ v,W.cell? ⟨gL,k4 * 7 + 4,none⟩ = some v) ∧ W.frozen? ⟨gL,k4 * 7 + 4,none⟩ = false):=Lib.hid (fun W _ hW=>by
    obtain ⟨g2,e2,-,-,l3⟩:=hW.rls.resolve_left (by rw [HNl.out];omega)
    cases e2
    exact l3 (k4 * 7 + 4) (by rw [HNl.out];omega))
   obtain ⟨r,hr⟩ : ∃ r,rs[k4] = r:=⟨_,rfl⟩
   have HRm : Hid (r ∈ rs):=Lib.hid (by rw [← hr];exact List.getElem_mem hku)
   have hrm : r.1.next.length ≤ 65536:=by
    have h1:=HOk.out.nexts r.1 (by rw [← HKr.out.rmap];exact List.mem_map.2 ⟨r,HRm.out,rfl⟩)
    exact canon_len h1.1 h1.2
   obtain ⟨r1,u⟩:=r
   dsimp only at hrm
   obtain ⟨p,c,hu,hcap,-⟩:=HKr.out.rel _ HRm.out
   dsimp only at hu hcap
   subst hu
   have HDk : Hid (∀ W,KB M W F Ar Aa Ac (some ⟨gL,0,none⟩) us rs → W.cell? ⟨gL,k4 * 7 + 6,none⟩ = some (.slice p r1.next.length c)):=Lib.hid (fun W hW=>by
    have:=hW.rh k4 hku gL rfl
    rw [hr] at this;exact this)
   have HSk : Hid (∀ W,KB M W F Ar Aa Ac (some ⟨gL,0,none⟩) us rs → SlL W M.b4 M.b5 (.slice p r1.next.length c) r1.next.length):=Lib.hid (fun W hW=>hW.rel _ HRm.out)
   have dk:=HDk.out w9 HKr.out
   obtain ⟨m,hm⟩ : ∃ m,r1.next.length = m:=⟨_,rfl⟩
   rw [hm] at dk HDk HSk hrm hcap
   clear hm hr l3 hku
   go_wp2_with fail
   go_loopw [17,110] (fun _ y wr=>∃ j : Nat,j ≤ m ∧ y = .int .i64 j ∧ Hid (KB M wr F Ar Aa Ac (some ⟨gL,0,none⟩) us rs) ∧ Hid (Mkd M.b0 M.b5 w5 wr) ∧ Hid (AM wr F us i)) (fun _ y _=>m - (intOf y).toNat)
   case atStart=>exact ⟨0,Nat.zero_le _,rfl,HKr,HMr,HAr⟩
   case round =>
   clear HKr HMr HAr c12 dk
   obtain ⟨j,hj,rfl,HKr,HMr,HAr⟩:=hrel
   have c12:=(HCe.out wr HMr.out).2.2.2
   have dk:=HDk.out wr HKr.out
   by_cases hjl : j < m
   ·obtain ⟨p',c',e1,-,q⟩:=HSk.out wr HKr.out
    cases e1
    obtain ⟨g,o,rfl,q1,q2,q3⟩:=q.resolve_left (by omega)
    obtain ⟨⟨u0,d0⟩,z0⟩:=q3 j hjl
    clear q q3
    go_wp2_with fail
    go_roundw
    case rel=>exact ⟨j + 1,by omega,by go_num,Lib.hid (HKr.out.set g (o + j) _ (by omega) q2 (.inr (by omega)) (.inr (.inl q1))),Lib.hid (HMr.out.set g (o + j) _ (by omega) q2),Lib.hid (HAr.out.other HKr.out g (o + j) _ (.inr (by omega)))⟩
    case measure=>simp [intOf];omega
   obtain rfl : j = m:=by omega
   obtain ⟨⟨u0,d0⟩,z0⟩:=HL4.out wr HMr.out HKr.out
   go_wp2_with fail
   go_roundw
   case rel=>exact ⟨k4 + 1,by omega,by go_num,Lib.hid (HKr.out.set gL (k4 * 7 + 4) _ (by omega) (by omega) (.inr (by omega)) (.inr (.inr (by omega)))),Lib.hid (HMr.out.set gL (k4 * 7 + 4) _ (by omega) (by omega)),Lib.hid (HAr.out.other HKr.out gL (k4 * 7 + 4) _ (.inr l1))⟩
   case measure=>simp [intOf];omega
  obtain rfl : k4 = nl:=by omega
  have HS9:=Lib.hid (HSl.out.mkd HMr.out)
  have HCx:=Lib.hid ((HCe.out w9 HMr.out).2.1)
  go_wp2_with fail
  go_loopw [18,130] (fun _ y wr=>∃ q : Nat,q ≤ n ∧ y = .int .i64 q ∧ Hid (Mkd w4.heap.size w5.heap.size w9 wr) ∧ Hid (Mk wr 50003 (.slice p5 n c5) q)) (fun _ y _=>n - (intOf y).toNat)
  case atStart=>exact ⟨0,Nat.zero_le _,rfl,Lib.hid (Mkd.refl _ _ _),Lib.hid (Mk.zero _ _ _)⟩
  case round =>
  clear c12
  obtain ⟨q,hq,rfl,HM2,HMk⟩:=hrel
  by_cases hql : q < n
  ·obtain ⟨p',c',e1,-,hrow⟩:=HS9.out.mkd HM2.out
   cases e1
   obtain ⟨g,o,rfl,q1,q2,q3⟩:=hrow.resolve_left (by omega)
   obtain ⟨⟨u0,d0⟩,z0⟩:=q3 q hql
   clear hrow q3
   go_wp2_with fail
   go_roundw
   case rel=>exact ⟨q + 1,by omega,by go_num,Lib.hid (HM2.out.set g (o + q) _ q1 q2),Lib.hid (HMk.out.step ⟨u0,d0⟩)⟩
   case measure=>simp [intOf];omega
  obtain rfl : q = n:=by omega
  obtain ⟨wz,hwz⟩ : ∃ W : World,W = wr:=⟨_,rfl⟩
  rw [← hwz] at HM2 HMk ⊢
  clear hwz wr
  have hx3:=HK.out.x3
  have hb53:=HK.out.b5
  have hxy:=block_lt HK.out.cy
  have hs45:=HL5.out.size
  have hs59:=HMr.out.size
  have c10:=HM2.out.cell HCx.out (.inl (by omega))
  have HHz : Hid (∀ (i' : Nat) u g,us[i']? = some u → Aa = some ⟨g,0,none⟩ → wz.cell? ⟨g,i',none⟩ = some u):=Lib.hid (fun i' u g hu hA=>HM2.out.cell (HKr.out.ah i' u g hu hA) (.inl (by
   have hl:=(List.getElem?_eq_some_iff.1 hu).1
   have hl2:=HKr.out.len
   obtain ⟨g2,e2,-,q2,-⟩:=HKr.out.als.resolve_left (by omega)
   rw [hA] at e2
   cases e2
   omega)))
  have HAz : Hid (AM wz F us i):=Lib.hid (fun k u b' hk hu hb'=>(HAr.out k u b' hk hu hb').keep (fun g o n' c' e h0=>by
   obtain ⟨p',c2,e1,-,hrow⟩:=HKr.out.ael k u b' hu hb'
   rw [e] at e1
   injection e1 with e2 e3 e4
   obtain ⟨g2,o2,e5,q1,q2,q3⟩:=hrow.resolve_left (by omega)
   rw [← e2] at e5
   cases e5
   exact HM2.out.block g (by omega) (.inl (by omega))))
  go_wp2_with fail
  go_loopw [19,20,140] (fun _ _ y wr=>∃ j : Nat,j ≤ i ∧ y = .int .i64 j ∧ wr = wz) (fun _ _ y _=>i - (intOf y).toNat)
  case atStart=>exact ⟨0,Nat.zero_le _,rfl,rfl⟩
  case round =>
  obtain ⟨j,hj,rfl,hwr⟩:=hrel
  subst hwr
  by_cases hji : j < i
  ·obtain ⟨gA,rfl,-,-,-⟩:=HKr.out.als.resolve_left (by rw [HNa.out];omega)
   have hiu : j < us.length:=by rw [HKr.out.len,HNa.out];exact hji
   have hib : j < F.als.length:=by rw [HNa.out];exact hji
   have HUi:=Lib.hid (List.getElem?_eq_getElem hiu)
   have HBi:=Lib.hid (List.getElem?_eq_getElem hib)
   obtain ⟨u,hu⟩ : ∃ u,us[j] = u:=⟨_,rfl⟩
   obtain ⟨bb,hbb⟩ : ∃ b,F.als[j] = b:=⟨_,rfl⟩
   rw [hu] at HUi
   rw [hbb] at HBi
   have hbm : bb.length ≤ 65536:=by
    have h1:=HOk.out.sets bb (by rw [← hbb];exact List.getElem_mem hib)
    exact canon_len h1.1 h1.2
   have HAj:=Lib.hid (HAz.out j u bb hji HUi.out HBi.out)
   obtain ⟨p,c,rfl,hcap,hrow⟩:=HKr.out.ael j u bb HUi.out HBi.out
   have dk:=HHz.out j _ gA HUi.out rfl
   obtain ⟨m,hm⟩ : ∃ m,bb.length = m:=⟨_,rfl⟩
   rw [hm] at dk hbm hcap HAj hrow
   have HRo:=Lib.hid hrow
   clear hu hbb hm hiu hib hrow HUi
   go_wp2_with fail
   go_loopw [20,149] (fun _ y W=>∃ j2 : Nat,j2 ≤ m ∧ y = .int .i64 j2 ∧ W = wr) (fun _ y _=>m - (intOf y).toNat)
   case atStart=>exact ⟨0,Nat.zero_le _,rfl,rfl⟩
   case round =>
   obtain ⟨j2,hj2,rfl,hwr2⟩:=hrel
   subst hwr2
   by_cases hj2m : j2 < m
   ·obtain ⟨g,o,rfl,-,-,-⟩:=HRo.out.resolve_left (by omega)
    have d1:=HAj.out g o m c rfl j2 hj2m
    go_wp2_with fail
    go_roundw
    case rel=>exact ⟨j2 + 1,by omega,by go_num,by trivial⟩
    case measure=>simp [intOf];omega
   obtain rfl : j2 = m:=by omega
   go_wp2_with fail
   go_roundw
   case rel=>exact ⟨j + 1,by omega,by go_num,by trivial⟩
   case measure=>simp [intOf];omega
  obtain rfl : j = i:=by omega
  obtain ⟨wz,hwz⟩ : ∃ W : World,W = wr:=⟨_,rfl⟩
  rw [← hwz] at HM2 HMk ⊢
  clear hwz c10 HHz HAz wr
  have hb0:=HK.out.b0
  have hs3:=HK.out.below.size
  have hs23:=HK.out.base.size
  have hs2:=HB2.out.size
  have HBz : Hid (Below w.heap.size w wz):=Lib.hid (HM2.out.below (HMr.out.below HB5.out (by omega) (by omega)) (by omega) (by omega))
  have hb2z : Below w2.heap.size w2 wz:=HM2.out.below (HMr.out.below (HK.out.base.trans (HL5.out.mono hs23)) (by omega) (by omega)) (by omega) (by omega)
  have HFz:=Lib.hid (HF2.out.keep hb2z)
  have HQz:=Lib.hid (HQ2.out.keep hb2z)
  have haz : AffN M.b5 wz F b:=HK.out.bn.frame (fun k hk hk3=>(HM2.out.block k (by omega) (.inl (by omega))).trans ((HMr.out.block k (by omega) (.inr hk)).trans ((HL5.out.block k (by omega)).trans (HK.out.below.block k hk3))))
  have HYz : Hid (wz.heap[x + 1]? = some (.cells (affA F b) 41 (0,0))):=Lib.hid ((HM2.out.block (x + 1) (by omega) (.inl hxy)).trans ((HMr.out.block (x + 1) (by omega) (.inr (by omega))).trans ((HL5.out.block (x + 1) hxy).trans HK.out.cy)))
  have hSz : FS wz (.slice p5 q c5) (List.replicate q 50003):=HMk.out.fs hc5 (by
   obtain ⟨p',c',e1,-,hrow⟩:=HS9.out
   cases e1
   exact hrow.imp id (fun ⟨g,o,hp,_⟩=>⟨g,o,hp⟩))
  have HSz2:=Lib.hid hSz
  obtain ⟨vbr,vba,vbc,vbl⟩:=b
  obtain ⟨Br,jr,e1⟩:=own_slice haz.reps
  obtain ⟨Bc,jc,e3⟩:=own_slice haz.cls
  obtain ⟨usb,hba1,-,-⟩:=haz.als
  obtain ⟨rsb,-,hbl1,-⟩:=haz.rls
  obtain ⟨Ba,ja,e2⟩:=own_slice hba1
  obtain ⟨Bl,jl,e4⟩:=own_slice hbl1
  dsimp only at e1 e2 e3 e4
  subst e1 e2 e3 e4
  have HAb:=Lib.hid haz
  clear haz hba1 hbl1 hSz hb2z HMr HM2 HMk HKr HAr HS9 HCx HK HKB5 HCe HSl HL5 HB5 hs45 hs59 hs3 hs23 hs2 hb0 hb53 hxy hx3 HB4
  go_wp2_with fail
  refine (HQg.out wz HQz.out).mono ?_
  rintro e wA ⟨vA,rfl,hiA,hbA⟩
  have HIA:=Lib.hid hiA
  have HBA:=Lib.hid hbA
  obtain ⟨pA,cA,rfl⟩ : ∃ p c,vA = .slice p zs.length c:=by obtain ⟨p,c,hv,-⟩:=hiA;exact ⟨p,c,hv⟩
  clear hiA hbA
  go_wp2_with fail
  refine (HFg.out wA (HFz.out.keep HBA.out) (HBz.out.trans (HBA.out.mono HBz.out.size))).mono ?_
  rintro e wB ⟨vB,rfl,hfB,hbB⟩
  have HFB:=Lib.hid hfB.fs
  have HBB:=Lib.hid (HBA.out.trans (hbB.mono HBA.out.size))
  have HIB:=Lib.hid (HIA.out.keep hbB)
  obtain ⟨pB,cB,rfl⟩ : ∃ p c,vB = .slice p zs.length c:=by obtain ⟨p,c,hv,-⟩:=hfB;exact ⟨p,c,hv⟩
  have hy:=(HBB.out.block _ (block_lt HYz.out)).trans HYz.out
  have y0:=Lib.cell_of_heap hy 0
  have y1:=Lib.cell_of_heap hy 1
  have y2:=Lib.cell_of_heap hy 2
  have y3:=Lib.cell_of_heap hy 3
  have y4:=Lib.cell_of_heap hy 4
  have y5:=Lib.cell_of_heap hy 5
  have y6:=Lib.cell_of_heap hy 6
  have y7:=Lib.cell_of_heap hy 7
  have y8:=Lib.cell_of_heap hy 8
  have y9:=Lib.cell_of_heap hy 9
  have y10:=Lib.cell_of_heap hy 10
  have y11:=Lib.cell_of_heap hy 11
  have y12:=Lib.cell_of_heap hy 12
  simp only [affA,List.getElem?_toArray,List.getElem?_cons_zero,List.getElem?_cons_succ] at y0 y1 y2 y3 y4 y5 y6 y7 y8 y9 y10 y11 y12
  have HSf:=Lib.hid (so_sameFile F _ rf wB (HAb.out.rd.keep HBB.out) (HQz.out.keep HBB.out) HOk.out HRf.out)
  clear hfB hbB hy
  go_wp2_with fail
  refine HSf.out.mono ?_
  rintro e wC ⟨rfl,hbC⟩
  have HBC:=Lib.hid (HBB.out.trans (hbC.mono HBB.out.size))
  have HIC:=Lib.hid (HIB.out.keep hbC)
  have HFC:=Lib.hid (HFB.out.keep hbC)
  clear hbC HSf y0 y1 y2 y3 y4 y5 y6 y7 y8 y9 y10 y11 y12
  go_wp2_with fail
  refine (so_AffixesE fb F wC (HFz.out.keep HBC.out) HOk.out).mono ?_
  rintro e wD ⟨Cr,mr,ir,Ca,ma,ia,Cc,mc,ic,Cl,ml,il,rfl,hzD,hbD⟩
  have HBD:=Lib.hid (HBC.out.trans (hbD.mono HBC.out.size))
  have HID:=Lib.hid (HIC.out.keep hbD)
  have HFD:=Lib.hid (HFC.out.keep hbD)
  have HSf:=Lib.hid (so_sameFile F _ rf wD hzD.n.rd (HQz.out.keep HBD.out) HOk.out HRf.out)
  clear hzD hbD
  go_wp2_with fail
  refine HSf.out.mono ?_
  rintro e wE ⟨rfl,hbE⟩
  have HBE:=Lib.hid (HBD.out.trans (hbE.mono HBD.out.size))
  have HSm:=Lib.hid (so_lsame _ _ zs wE (HFD.out.keep hbE) (HID.out.keep hbE) HZ.out.1 (by have:=HZ.out.2;omega))
  clear hbE HSf
  go_wp2_with fail
  refine HSm.out.mono ?_
  rintro e wF ⟨rfl,n6,hwF⟩
  have HBF : Hid (Below wz.heap.size wz wF):=Lib.hid (by rw [hwF];exact below_drewN HBE.out _)
  have HIn:=Lib.hid (so_lints (.slice p5 q c5) (List.replicate q 50003) wF (HSz2.out.keep HBF.out) (by intro y hy;rw [List.eq_of_mem_replicate hy];decide) (by rw [List.length_replicate];omega))
  clear hwF HSm
  go_wp2_with fail
  refine HIn.out.mono ?_
  rintro e wG ⟨vG,rfl,hiG,hbG⟩
  have HBG:=Lib.hid (HBF.out.trans (hbG.mono HBF.out.size))
  have HHas:=Lib.hid (so_rHas vG (List.replicate q 50003) 50003 wG hiG (by rw [List.length_replicate];omega))
  rw [replicate_has] at HHas
  obtain ⟨pG,cG,hv,-⟩:=id hiG
  rw [List.length_replicate] at hv
  subst hv
  clear hbG hiG HIn
  go_wp2_with fail
  refine HHas.out.mono ?_
  rintro e wH ⟨rfl,rfl⟩
  go_wp2_with fail
  rw [show (decide (0 < q) == decide (0 < zs.length)) = true by rw [HNz.out];simp]
  go_ret
  exact ⟨rfl,HBz.out.trans (HBG.out.mono HBz.out.size)⟩
theorem affKeeps_sh (t s : ByteArray) (W : World) (h : W.ShapedOpen Tryz.prog) (hs : s.size ≤ 1048576) :
  Calls Tryz.prog 8 #[.string t,.string s] W fun e w'=>e = .returned (.bool true) ∧ Below W.heap.size W w':=by
 obtain ⟨m,hm⟩:=maxLen_of W h
 exact affKeeps_walk t s m W (Nat.lt_of_le_of_lt (Nat.zero_le _) (World.block_lt_of_cell? _ _ hm)) hm hs
end Go.Proofs.YtkdajhmlhjkcdaaGreatDoor
