import Derived.Test.YtfkblpjfknfgbaaGreatDoorRows
import Derived.Test.YtfkblpjfknfgbaaGreatDoorQ1
import Derived.Sort.WalkA6
import Derived.Sort.LotD3
import Derived.Deep.RegionWith
import Derived.WalkKit
import Derived.RowKit
import Derived.Sort.LotD4
import Derived.Sort.Grow
import Derived.Sort.AtCall
import Derived.BigGuard
import Derived.BigCall
import Derived.CellFam
import Derived.Sort.LotC
import Derived.RegionTactic
import Derived.Deep.Draws
import Derived.Deep.QuietTactic
import Derived.BigQuiet
set_option linter.unusedVariables false
set_option linter.unusedSimpArgs false
namespace Go.Proofs.YtfkblpjfknfgbaaGreatDoor
set_option maxHeartbeats 8000000
set_option maxRecDepth 100000
open Go.RowKit Go.Sort
section
variable {α:Type} [Inhabited α] (lt:α→α→Bool)
theorem scanSorted_go (d:Array α) (b i:Nat) (h:i < b) (hl:lt d[i]! d[i - 1]! = false):scanSorted lt d b i=scanSorted lt d b (i+1):=by
 rw [scanSorted];simp [h,hl]
theorem scanSorted_stop (d:Array α) (b i:Nat) (h:¬i < b∨lt d[i]! d[i - 1]! = true):scanSorted lt d b i=i:=by
 rw [scanSorted]
 rcases h with h | h
 ·simp [h]
 simp [h]
theorem shiftDown_go (j:Nat) (d:Array α) (hj:1≤j) (hl:lt d[j]! d[j - 1]! = true):shiftDown lt j d=shiftDown lt (j - 1) (swp d j (j - 1)):=by
 obtain⟨k,rfl⟩:∃k,j=k+1:=⟨j - 1,by omega⟩
 rw [shiftDown];simp only [Nat.add_sub_cancel] at hl ⊢;simp [hl]
theorem shiftDown_stop (j:Nat) (d:Array α) (h:j=0∨lt d[j]! d[j - 1]! = false):shiftDown lt j d=d:=by
 cases j with
 | zero=>rw [shiftDown]
 | succ k =>
  rw [shiftDown]
  simp only [Nat.add_sub_cancel] at h
  rcases h with h | h
  ·omega
  simp [h]
theorem shiftUp_go (b j:Nat) (d:Array α) (hj:j < b) (hl:lt d[j]! d[j - 1]! = true):shiftUp lt b j d=shiftUp lt b (j+1) (swp d j (j - 1)):=by
 rw [shiftUp];simp [hj,hl]
theorem shiftUp_stop (b j:Nat) (d:Array α) (h:¬j < b∨lt d[j]! d[j - 1]! = false):shiftUp lt b j d=d:=by
 rw [shiftUp]
 rcases h with h | h
 ·simp [h]
 by_cases hj:j < b<;>simp [hj,h]
end
section
variable {α:Type} [Inhabited α] (lt:α→α→Bool)
theorem pi_true (a b s i:Nat) (d:Array α) (hs:s < 5) (hK:scanSorted lt d b i=b):partialIns lt a b (5 - s) i d=(d,true):=by
 rw [show 5 - s=(4 - s)+1 by omega,partialIns_succ,if_pos hK]
theorem pi_short (a b s i:Nat) (d:Array α) (hs:s < 5) (hK:scanSorted lt d b i≠b) (h50:b - a < 50):partialIns lt a b (5 - s) i d=(d,false):=by
 rw [show 5 - s=(4 - s)+1 by omega,partialIns_succ,if_neg hK,if_pos h50]
theorem pi_go (a b s i k:Nat) (d:Array α) (hs:s < 5) (hK:scanSorted lt d b i=k) (hkb:k≠b) (h50:¬b - a < 50) :
  partialIns lt a b (5 - s) i d=partialIns lt a b (5 - (s+1)) k (fixUp lt b k (fixDown lt a k (swp d k (k - 1)))):=by
 rw [show 5 - s=(4 - s)+1 by omega,partialIns_succ,hK,if_neg hkb,if_neg h50,show 5 - (s+1)=4 - s by omega]
theorem pi_end (a b i:Nat) (d:Array α):partialIns lt a b (5 - 5) i d=(d,false):=rfl
end
theorem kQ (blk off cap a b:Nat) (d:Array Int) (w:World) (hH:Holds (Value.int .u16) w blk off d) (hab:a < b) (hb:b≤d.size) (hsz:d.size < 4611686018427387904) :
  Calls Tryz.prog 172 #[.slice (some ⟨blk,off,none⟩) d.size cap,.int .i64 a,.int .i64 b] w fun e w' =>
   e=.returned (.bool (Sort.partialInsertionSort ltInt d a b).2)∧∃n,w'=putRow (Value.int .u16) (Sort.ahead w n) blk off (Sort.partialInsertionSort ltInt d a b).1:=by
 have HH:Hid (Holds (Value.int .u16) w blk off d):=hH
 have HST:Hid (w=putRow (Value.int .u16) (Sort.ahead w 0) blk off d):=(putRow_self _ _ _ _ _ hH).symm;clear hH
 go_enter Tryz.func172,Tryz.ntmps172
 go_wp2
 go_loopw [7,8] (fun vi vs wr=>∃(i s n:Nat) (dk:Array Int),vi=.int .i64 i∧vs=.int .i64 s∧s≤5∧a < i∧i≤b∧dk.size=d.size∧wr=putRow (Value.int .u16) (Sort.ahead w n) blk off dk ∧
  partialIns ltInt a b (5 - s) i dk=partialIns ltInt a b 5 (a+1) d) (fun _ vs _=>5 - (intOf vs).toNat)
 case atStart=>exact⟨a+1,0,0,d,by go_num,rfl,by omega,by omega,by omega,rfl,HST.o,rfl⟩
 case round =>
 obtain⟨i,s,n,dk,rfl,rfl,hs5,hai,hib,hsk,hwr,hO⟩:=hrel
 have HO:Hid (partialIns ltInt a b (5 - s) i dk=partialIns ltInt a b 5 (a+1) d):=hO;clear hO
 go_wp2
 ·
  have hs:s < 5:=by omega
  go_loopw [7] (fun vi wr2=>∃(k m:Nat),vi=.int .i64 k∧i≤k∧k≤b∧wr2=putRow (Value.int .u16) (Sort.ahead w m) blk off dk∧scanSorted ltInt dk b k=scanSorted ltInt dk b i) (fun vi _=>b - (intOf vi).toNat)
  case atStart=>exact⟨i,n,rfl,Nat.le_refl _,hib,rfl,rfl⟩
  case round =>
  obtain⟨k,m,rfl,hik,hkb,hw2,hS⟩:=hrel
  obtain⟨G,hG⟩:∃G:Nat→Int,∀t,G t=dk[t]!:=⟨fun t=>dk[t]!,fun _=>rfl⟩
  have hcw:∀t,t < d.size→wr.cell? ⟨blk,off+t,none⟩=some (.int .u16 (G t)):=fun t ht=>by
   rw [hw2,hG];exact cell?_putRow _ _ _ _ d dk (holds_ahead _ _ _ _ _ _ HH.o) hsk t (by omega)
  have hfw:∀t,t < d.size→wr.frozen? ⟨blk,off+t,none⟩=false:=fun t ht=>by
   rw [hw2,frozen?_putRow];exact ((holds_ahead _ _ m _ _ _ HH.o) t ht).2
  have HW:Hid (wr=putRow (Value.int .u16) (Sort.ahead w m) blk off dk):=hw2;have HG:Hid (∀t,G t=dk[t]!):=hG;have HS:Hid (scanSorted ltInt dk b k=scanSorted ltInt dk b i):=hS;clear hw2 hG hS
  go_wp2
  by_cases hkb':k < b
  ·go_quiet (first | (go_at_call 173;refine Calls.quiet_of_same (ay _ _ _)))
   go_wp2
   all_goals first
    | (at_end
       have hl:ltInt (G k) (G (k - 1))=false:=by
        have h:(!ltInt (G k) (G (k - 1)))=true:=by assumption
        simpa using h
       go_roundw
       case rel=>exact⟨k+1,m+nq,by go_num,by omega,by omega,by rw [HW.o];exact putRow_drewN _ _ _ _ _ _ _,by rw [←HS.o,scanSorted_go ltInt dk b k hkb' (by rw [←HG.o,←HG.o];exact hl)]⟩
       case measure=>simp [intOf];omega)
    | (have hl:ltInt (G k) (G (k - 1))=true:=by
        have h:(!ltInt (G k) (G (k - 1)))=false:=by assumption
        simpa using h
       have HK:Hid (scanSorted ltInt dk b i=k):=by
        show scanSorted ltInt dk b i=k
        rw [←HS.o,scanSorted_stop ltInt dk b k (Or.inr (by rw [←HG.o,←HG.o];exact hl))]
       first
        | (at_ret
           have hv:Sort.partialInsertionSort ltInt d a b=(dk,false):=by
            unfold Sort.partialInsertionSort
            rw [←HO.o,pi_short ltInt a b s i dk hs (by rw [HK.o];omega) (by omega)]
           rw [hv]
           go_ret
           exact⟨rfl,m+nq,by rw [HW.o];exact putRow_drewN _ _ _ _ _ _ _⟩)
        | (at_region 11
           have h50:¬b - a < 50:=by omega
           go_region
           have hsw:((wr.drewN (nq+1)).setCell ⟨blk,off+k,none⟩ (.int .u16 (G (k - 1)))).setCell ⟨blk,off+(k - 1),none⟩ (.int .u16 (G k))=putRow (Value.int .u16) (Sort.ahead w (m+(nq+1))) blk off (swp dk k (k - 1)):=by
            rw [HW.o,HG.o,HG.o]
            exact swap_worldA _ w m (nq+1) blk off dk k (k - 1) (by omega) (by omega)
           have hs1:(swp dk k (k - 1)).size=d.size:=by rw [size_swp];exact hsk
           go_wp2
           all_goals first
            | (at_loop
               have hka:k - a≥2:=by omega
               go_loopw [9] (fun vj wr2=>∃(j m2:Nat) (dj:Array Int),vj=.int .i64 j∧j≤k - 1∧dj.size=d.size∧wr2=putRow (Value.int .u16) (Sort.ahead w m2) blk off dj ∧
                shiftDown ltInt j dj=shiftDown ltInt (k - 1) (swp dk k (k - 1))) (fun vj _=>(intOf vj).toNat)
               case atStart=>exact⟨k - 1,_,(swp dk k (k - 1)),by congr 1;omega,Nat.le_refl _,hs1,rfl,rfl⟩
               case round =>
               obtain⟨j,m2,dj,rfl,hjk,hsj,hw2,hDn⟩:=hrel
               obtain⟨G,hG⟩:∃G:Nat→Int,∀t,G t=dj[t]!:=⟨fun t=>dj[t]!,fun _=>rfl⟩
               have hcw:∀t,t < d.size→wr.cell? ⟨blk,off+t,none⟩=some (.int .u16 (G t)):=fun t ht=>by
                rw [hw2,hG];exact cell?_putRow _ _ _ _ d dj (holds_ahead _ _ _ _ _ _ HH.o) hsj t (by omega)
               have hfw:∀t,t < d.size→wr.frozen? ⟨blk,off+t,none⟩=false:=fun t ht=>by
                rw [hw2,frozen?_putRow];exact ((holds_ahead _ _ m2 _ _ _ HH.o) t ht).2
               have HW:Hid (wr=putRow (Value.int .u16) (Sort.ahead w m2) blk off dj):=hw2;have HG:Hid (∀t,G t=dj[t]!):=hG;have HDn:Hid (shiftDown ltInt j dj=shiftDown ltInt (k - 1) (swp dk k (k - 1))):=hDn;clear hw2 hG hDn hsw
               go_wp2
               all_goals first
                | (at_region 16
                   go_quiet (first | (go_at_call 173;refine Calls.quiet_of_same (ay _ _ _)))
                   go_wp2
                   all_goals first
                    | (at_region 17
                       have hl:ltInt (G j) (G (j - 1))=true:=by
                        have h:(!ltInt (G j) (G (j - 1)))=false:=by assumption
                        simpa using h
                       go_region
                       all_goals go_wp2
                       go_roundw
                       case rel =>
                        refine⟨j - 1,m2+(nq+1),swp dj j (j - 1),by congr 1;omega,by omega,by rw [size_swp];exact hsj,?_,?_⟩
                        ·rw [HW.o,HG.o,HG.o]
                         exact swap_worldA _ w m2 (nq+1) blk off dj j (j - 1) (by omega) (by omega)
                        rw [←HDn.o,shiftDown_go ltInt j dj (by omega) (by rw [←HG.o,←HG.o];exact hl)]
                       case measure=>simp [intOf];omega)
                    | (
                       have hl:ltInt (G j) (G (j - 1))=false:=by
                        have h:(!ltInt (G j) (G (j - 1)))=true:=by assumption
                        simpa using h
                       have HD:Hid (fixDown ltInt a k (swp dk k (k - 1))=dj):=by
                        show fixDown ltInt a k (swp dk k (k - 1))=dj
                        unfold fixDown;rw [if_pos hka,←HDn.o,shiftDown_stop ltInt j dj (Or.inr (by rw [←HG.o,←HG.o];exact hl))]
                       first
                        | (at_end
                           go_roundw
                           case rel =>
                            refine⟨k,s+1,_,dj,rfl,by go_num,by omega,by omega,by omega,hsj,(by first | rfl | exact HW.o | (rw [HW.o];exact putRow_drewN _ _ _ _ _ _ _)),?_⟩
                            rw [←HO.o,pi_go ltInt a b s i k dk hs HK.o (by omega) (by omega),HD.o,show fixUp ltInt b k dj=dj from by unfold fixUp;rw [if_neg (by omega)]]
                           case measure=>simp [intOf];omega)
                        | (at_loop
                           go_loopw [10] (fun vj wr2=>∃(j m3:Nat) (du:Array Int),vj=.int .i64 j∧k+1≤j∧j≤b∧du.size=d.size∧wr2=putRow (Value.int .u16) (Sort.ahead w m3) blk off du ∧
                            shiftUp ltInt b j du=shiftUp ltInt b (k+1) dj) (fun vj _=>b - (intOf vj).toNat)
                           case atStart=>exact⟨k+1,_,dj,by go_num,Nat.le_refl _,by omega,hsj,(by first | rfl | exact HW.o | (rw [HW.o];exact putRow_drewN _ _ _ _ _ _ _)),rfl⟩
                           case round =>
                           obtain⟨j,m3,du,rfl,hkj,hjb,hsu,hw3,hU⟩:=hrel
                           obtain⟨G,hG⟩:∃G:Nat→Int,∀t,G t=du[t]!:=⟨fun t=>du[t]!,fun _=>rfl⟩
                           have hcw:∀t,t < d.size→wr.cell? ⟨blk,off+t,none⟩=some (.int .u16 (G t)):=fun t ht=>by
                            rw [hw3,hG];exact cell?_putRow _ _ _ _ d du (holds_ahead _ _ _ _ _ _ HH.o) hsu t (by omega)
                           have hfw:∀t,t < d.size→wr.frozen? ⟨blk,off+t,none⟩=false:=fun t ht=>by
                            rw [hw3,frozen?_putRow];exact ((holds_ahead _ _ m3 _ _ _ HH.o) t ht).2
                           have HW:Hid (wr=putRow (Value.int .u16) (Sort.ahead w m3) blk off du):=hw3;have HG:Hid (∀t,G t=du[t]!):=hG;have HU:Hid (shiftUp ltInt b j du=shiftUp ltInt b (k+1) dj):=hU;clear hw3 hG hU
                           go_wp2
                           all_goals first
                            | (at_region 22
                               go_quiet (first | (go_at_call 173;refine Calls.quiet_of_same (ay _ _ _)))
                               go_wp2
                               all_goals first
                                | (at_region 23
                                   have hl:ltInt (G j) (G (j - 1))=true:=by
                                    have h:(!ltInt (G j) (G (j - 1)))=false:=by assumption
                                    simpa using h
                                   go_region
                                   all_goals go_wp2
                                   go_roundw
                                   case rel =>
                                    refine⟨j+1,m3+(nq+1),swp du j (j - 1),by go_num,by omega,by omega,by rw [size_swp];exact hsu,?_,?_⟩
                                    ·rw [HW.o,HG.o,HG.o]
                                     exact swap_worldA _ w m3 (nq+1) blk off du j (j - 1) (by omega) (by omega)
                                    rw [←HU.o,shiftUp_go ltInt b j du (by omega) (by rw [←HG.o,←HG.o];exact hl)]
                                   case measure=>simp [intOf];omega)
                                | (at_end
                                   have hl:ltInt (G j) (G (j - 1))=false:=by
                                    have h:(!ltInt (G j) (G (j - 1)))=true:=by assumption
                                    simpa using h
                                   go_roundw
                                   case rel =>
                                    refine⟨k,s+1,_,du,rfl,by go_num,by omega,by omega,by omega,hsu,(by first | rfl | exact HW.o | (rw [HW.o];exact putRow_drewN _ _ _ _ _ _ _)),?_⟩
                                    rw [←HO.o,pi_go ltInt a b s i k dk hs HK.o (by omega) (by omega),HD.o,show fixUp ltInt b k dj=du from by unfold fixUp;rw [if_pos (by omega),←HU.o,shiftUp_stop ltInt b j du (Or.inr (by rw [←HG.o,←HG.o];exact hl))]]
                                   case measure=>simp [intOf];omega))
                            | (at_end
                               go_roundw
                               case rel =>
                                refine⟨k,s+1,_,du,rfl,by go_num,by omega,by omega,by omega,hsu,(by first | rfl | exact HW.o | (rw [HW.o];exact putRow_drewN _ _ _ _ _ _ _)),?_⟩
                                rw [←HO.o,pi_go ltInt a b s i k dk hs HK.o (by omega) (by omega),HD.o,show fixUp ltInt b k dj=du from by unfold fixUp;rw [if_pos (by omega),←HU.o,shiftUp_stop ltInt b j du (Or.inl (by omega))]]
                               case measure=>simp [intOf];omega))))
                | (
                   have HD:Hid (fixDown ltInt a k (swp dk k (k - 1))=dj):=by
                    show fixDown ltInt a k (swp dk k (k - 1))=dj
                    unfold fixDown;rw [if_pos hka,←HDn.o,shiftDown_stop ltInt j dj (Or.inl (by omega))]
                   first
                    | (at_end
                       go_roundw
                       case rel =>
                        refine⟨k,s+1,_,dj,rfl,by go_num,by omega,by omega,by omega,hsj,(by first | rfl | exact HW.o | (rw [HW.o];exact putRow_drewN _ _ _ _ _ _ _)),?_⟩
                        rw [←HO.o,pi_go ltInt a b s i k dk hs HK.o (by omega) (by omega),HD.o,show fixUp ltInt b k dj=dj from by unfold fixUp;rw [if_neg (by omega)]]
                       case measure=>simp [intOf];omega)
                    | (at_loop
                       go_loopw [10] (fun vj wr2=>∃(j m3:Nat) (du:Array Int),vj=.int .i64 j∧k+1≤j∧j≤b∧du.size=d.size∧wr2=putRow (Value.int .u16) (Sort.ahead w m3) blk off du ∧
                        shiftUp ltInt b j du=shiftUp ltInt b (k+1) dj) (fun vj _=>b - (intOf vj).toNat)
                       case atStart=>exact⟨k+1,_,dj,by go_num,Nat.le_refl _,by omega,hsj,(by first | rfl | exact HW.o | (rw [HW.o];exact putRow_drewN _ _ _ _ _ _ _)),rfl⟩
                       case round =>
                       obtain⟨j,m3,du,rfl,hkj,hjb,hsu,hw3,hU⟩:=hrel
                       obtain⟨G,hG⟩:∃G:Nat→Int,∀t,G t=du[t]!:=⟨fun t=>du[t]!,fun _=>rfl⟩
                       have hcw:∀t,t < d.size→wr.cell? ⟨blk,off+t,none⟩=some (.int .u16 (G t)):=fun t ht=>by
                        rw [hw3,hG];exact cell?_putRow _ _ _ _ d du (holds_ahead _ _ _ _ _ _ HH.o) hsu t (by omega)
                       have hfw:∀t,t < d.size→wr.frozen? ⟨blk,off+t,none⟩=false:=fun t ht=>by
                        rw [hw3,frozen?_putRow];exact ((holds_ahead _ _ m3 _ _ _ HH.o) t ht).2
                       have HW:Hid (wr=putRow (Value.int .u16) (Sort.ahead w m3) blk off du):=hw3;have HG:Hid (∀t,G t=du[t]!):=hG;have HU:Hid (shiftUp ltInt b j du=shiftUp ltInt b (k+1) dj):=hU;clear hw3 hG hU
                       go_wp2
                       all_goals first
                        | (at_region 22
                           go_quiet (first | (go_at_call 173;refine Calls.quiet_of_same (ay _ _ _)))
                           go_wp2
                           all_goals first
                            | (at_region 23
                               have hl:ltInt (G j) (G (j - 1))=true:=by
                                have h:(!ltInt (G j) (G (j - 1)))=false:=by assumption
                                simpa using h
                               go_region
                               all_goals go_wp2
                               go_roundw
                               case rel =>
                                refine⟨j+1,m3+(nq+1),swp du j (j - 1),by go_num,by omega,by omega,by rw [size_swp];exact hsu,?_,?_⟩
                                ·rw [HW.o,HG.o,HG.o]
                                 exact swap_worldA _ w m3 (nq+1) blk off du j (j - 1) (by omega) (by omega)
                                rw [←HU.o,shiftUp_go ltInt b j du (by omega) (by rw [←HG.o,←HG.o];exact hl)]
                               case measure=>simp [intOf];omega)
                            | (at_end
                               have hl:ltInt (G j) (G (j - 1))=false:=by
                                have h:(!ltInt (G j) (G (j - 1)))=true:=by assumption
                                simpa using h
                               go_roundw
                               case rel =>
                                refine⟨k,s+1,_,du,rfl,by go_num,by omega,by omega,by omega,hsu,(by first | rfl | exact HW.o | (rw [HW.o];exact putRow_drewN _ _ _ _ _ _ _)),?_⟩
                                rw [←HO.o,pi_go ltInt a b s i k dk hs HK.o (by omega) (by omega),HD.o,show fixUp ltInt b k dj=du from by unfold fixUp;rw [if_pos (by omega),←HU.o,shiftUp_stop ltInt b j du (Or.inr (by rw [←HG.o,←HG.o];exact hl))]]
                               case measure=>simp [intOf];omega))
                        | (at_end
                           go_roundw
                           case rel =>
                            refine⟨k,s+1,_,du,rfl,by go_num,by omega,by omega,by omega,hsu,(by first | rfl | exact HW.o | (rw [HW.o];exact putRow_drewN _ _ _ _ _ _ _)),?_⟩
                            rw [←HO.o,pi_go ltInt a b s i k dk hs HK.o (by omega) (by omega),HD.o,show fixUp ltInt b k dj=du from by unfold fixUp;rw [if_pos (by omega),←HU.o,shiftUp_stop ltInt b j du (Or.inl (by omega))]]
                           case measure=>simp [intOf];omega))))
            | (
               have HD:Hid (fixDown ltInt a k (swp dk k (k - 1))=(swp dk k (k - 1))):=by
                show fixDown ltInt a k (swp dk k (k - 1))=(swp dk k (k - 1))
                unfold fixDown;rw [if_neg (by omega)]
               first
                | (at_end
                   go_roundw
                   case rel =>
                    refine⟨k,s+1,_,(swp dk k (k - 1)),rfl,by go_num,by omega,by omega,by omega,hs1,(by first | rfl | exact HW.o | (rw [HW.o];exact putRow_drewN _ _ _ _ _ _ _)),?_⟩
                    rw [←HO.o,pi_go ltInt a b s i k dk hs HK.o (by omega) (by omega),HD.o,show fixUp ltInt b k (swp dk k (k - 1))=(swp dk k (k - 1)) from by unfold fixUp;rw [if_neg (by omega)]]
                   case measure=>simp [intOf];omega)
                | (at_loop
                   go_loopw [10] (fun vj wr2=>∃(j m3:Nat) (du:Array Int),vj=.int .i64 j∧k+1≤j∧j≤b∧du.size=d.size∧wr2=putRow (Value.int .u16) (Sort.ahead w m3) blk off du ∧
                    shiftUp ltInt b j du=shiftUp ltInt b (k+1) (swp dk k (k - 1))) (fun vj _=>b - (intOf vj).toNat)
                   case atStart=>exact⟨k+1,_,(swp dk k (k - 1)),by go_num,Nat.le_refl _,by omega,hs1,(by first | rfl | exact HW.o | (rw [HW.o];exact putRow_drewN _ _ _ _ _ _ _)),rfl⟩
                   case round =>
                   obtain⟨j,m3,du,rfl,hkj,hjb,hsu,hw3,hU⟩:=hrel
                   obtain⟨G,hG⟩:∃G:Nat→Int,∀t,G t=du[t]!:=⟨fun t=>du[t]!,fun _=>rfl⟩
                   have hcw:∀t,t < d.size→wr.cell? ⟨blk,off+t,none⟩=some (.int .u16 (G t)):=fun t ht=>by
                    rw [hw3,hG];exact cell?_putRow _ _ _ _ d du (holds_ahead _ _ _ _ _ _ HH.o) hsu t (by omega)
                   have hfw:∀t,t < d.size→wr.frozen? ⟨blk,off+t,none⟩=false:=fun t ht=>by
                    rw [hw3,frozen?_putRow];exact ((holds_ahead _ _ m3 _ _ _ HH.o) t ht).2
                   have HW:Hid (wr=putRow (Value.int .u16) (Sort.ahead w m3) blk off du):=hw3;have HG:Hid (∀t,G t=du[t]!):=hG;have HU:Hid (shiftUp ltInt b j du=shiftUp ltInt b (k+1) (swp dk k (k - 1))):=hU;clear hw3 hG hU
                   go_wp2
                   all_goals first
                    | (at_region 22
                       go_quiet (first | (go_at_call 173;refine Calls.quiet_of_same (ay _ _ _)))
                       go_wp2
                       all_goals first
                        | (at_region 23
                           have hl:ltInt (G j) (G (j - 1))=true:=by
                            have h:(!ltInt (G j) (G (j - 1)))=false:=by assumption
                            simpa using h
                           go_region
                           all_goals go_wp2
                           go_roundw
                           case rel =>
                            refine⟨j+1,m3+(nq+1),swp du j (j - 1),by go_num,by omega,by omega,by rw [size_swp];exact hsu,?_,?_⟩
                            ·rw [HW.o,HG.o,HG.o]
                             exact swap_worldA _ w m3 (nq+1) blk off du j (j - 1) (by omega) (by omega)
                            rw [←HU.o,shiftUp_go ltInt b j du (by omega) (by rw [←HG.o,←HG.o];exact hl)]
                           case measure=>simp [intOf];omega)
                        | (at_end
                           have hl:ltInt (G j) (G (j - 1))=false:=by
                            have h:(!ltInt (G j) (G (j - 1)))=true:=by assumption
                            simpa using h
                           go_roundw
                           case rel =>
                            refine⟨k,s+1,_,du,rfl,by go_num,by omega,by omega,by omega,hsu,(by first | rfl | exact HW.o | (rw [HW.o];exact putRow_drewN _ _ _ _ _ _ _)),?_⟩
                            rw [←HO.o,pi_go ltInt a b s i k dk hs HK.o (by omega) (by omega),HD.o,show fixUp ltInt b k (swp dk k (k - 1))=du from by unfold fixUp;rw [if_pos (by omega),←HU.o,shiftUp_stop ltInt b j du (Or.inr (by rw [←HG.o,←HG.o];exact hl))]]
                           case measure=>simp [intOf];omega))
                    | (at_end
                       go_roundw
                       case rel =>
                        refine⟨k,s+1,_,du,rfl,by go_num,by omega,by omega,by omega,hsu,(by first | rfl | exact HW.o | (rw [HW.o];exact putRow_drewN _ _ _ _ _ _ _)),?_⟩
                        rw [←HO.o,pi_go ltInt a b s i k dk hs HK.o (by omega) (by omega),HD.o,show fixUp ltInt b k (swp dk k (k - 1))=du from by unfold fixUp;rw [if_pos (by omega),←HU.o,shiftUp_stop ltInt b j du (Or.inl (by omega))]]
                       case measure=>simp [intOf];omega)))))
  ·
   go_quiet (first | (go_at_call 173;refine Calls.quiet_of_same (ay _ _ _)))
   go_wp2
   obtain rfl:k=b:=by omega
   have hv:Sort.partialInsertionSort ltInt d a k=(dk,true):=by
    unfold Sort.partialInsertionSort
    rw [←HO.o,pi_true ltInt a k s i dk hs (by rw [←HS.o,scanSorted_stop ltInt dk k k (Or.inl (by omega))])]
   rw [hv]
   go_ret
   exact⟨rfl,m+nq,by rw [HW.o];exact putRow_drewN _ _ _ _ _ _ _⟩
 ·
  obtain rfl:s=5:=by omega
  have hv:Sort.partialInsertionSort ltInt d a b=(dk,false):=by
   unfold Sort.partialInsertionSort
   rw [←HO.o,pi_end]
  rw [hv]
  go_ret
  exact⟨rfl,n,rfl⟩
section
variable {α:Type} [Inhabited α]
def bpRest (a L M i0:Nat):Nat→Nat→UInt64×Array α→Array α
 | 0,_,st=>st.2
 | k+1,t,st=>bpRest a L M i0 k (t+1) (breakStep a L M st (i0+t))
theorem breakPatterns_eq (d:Array α) (a L:Nat) (h8:8≤L):breakPatterns d a (a+L)=bpRest a L (1 <<< bitsLen L) (a+L / 4*2 - 1) 3 0 (UInt64.ofNat L,d):=by
 unfold breakPatterns
 simp only [Nat.add_sub_cancel_left];rw [if_pos h8]
 rfl
theorem bp_step (a L M i0 t:Nat) (r:UInt64) (d:Array α) (o:Nat) (ht:t < 3) (ho:(if (xorNext r).toNat &&& (M - 1)≥L then ((xorNext r).toNat &&& (M - 1)) - L else (xorNext r).toNat &&& (M - 1))=o) :
  bpRest a L M i0 (3 - t) t (r,d)=bpRest a L M i0 (3 - (t+1)) (t+1) (xorNext r,swp d (i0+t) (a+o)):=by
 rw [show 3 - t=(3 - (t+1))+1 by omega,bpRest]
 unfold breakStep;simp only [ho]
theorem grow_one_cell (X:World) (v:Value) (T:TypeId):(grow X #[Obj.cells #[v] T]).cell? ⟨X.heap.size,0,none⟩=some v:=by
 rw [←alloc_eq_grow,World.cell?_alloc_at _ _ _ _ rfl];rfl
theorem grow_one_frozen (X:World) (v:Value) (T:TypeId):(grow X #[Obj.cells #[v] T]).frozen? ⟨X.heap.size,0,none⟩=false:=by
 rw [←alloc_eq_grow,World.frozen?_alloc_at _ _ _ _ rfl]
theorem setCell_grow (X:World) (os:Array Obj) (blk off:Nat) (v:Value) (h:blk < X.heap.size):(grow X os).setCell ⟨blk,off,none⟩ v=grow (X.setCell ⟨blk,off,none⟩ v) os:=by
 rw [setCell_eq,setCell_eq,mapBlock_grow _ _ _ _ h]
theorem setCell_grow_one (X:World) (u v:Value) (T:TypeId):(grow X #[Obj.cells #[u] T]).setCell ⟨X.heap.size,0,none⟩ v=grow X #[Obj.cells #[v] T]:=by
 rw [setCell_eq,mapBlock_grow_new _ _ _ _ (Nat.le_refl _)]
 simp [onCells]
theorem step_world (enc:α→Value) (w:World) (n q blk off:Nat) (d:Array α) (j k:Nat) (hblk:blk < w.heap.size) (hj:j < d.size) (hk:k < d.size) (u v:Value) (T:TypeId) :
  ((((grow (putRow enc (Sort.ahead w n) blk off d) #[Obj.cells #[u] T]).setCell ⟨w.heap.size,0,none⟩ v).drewN q).setCell ⟨blk,off+j,none⟩ (enc d[k]!)).setCell ⟨blk,off+k,none⟩ (enc d[j]!) =
    grow (putRow enc (Sort.ahead w (n+q)) blk off (swp d j k)) #[Obj.cells #[v] T]:=by
 have hz:(putRow enc (Sort.ahead w n) blk off d).heap.size=w.heap.size:=by simp
 rw [←hz,setCell_grow_one,show (grow (putRow enc (Sort.ahead w n) blk off d) #[Obj.cells #[v] T]).drewN q=grow ((putRow enc (Sort.ahead w n) blk off d).drewN q) #[Obj.cells #[v] T] from rfl,putRow_drewN,
  setCell_grow _ _ _ _ _ (by simpa using hblk),setCell_grow _ _ _ _ _ (by simpa using hblk),putRow_swp enc _ blk off d j k hj hk]
end
theorem mZ (blk off cap a L:Nat) (d:Array Int) (w:World) (hH:Holds (Value.int .u16) w blk off d) (hblk:blk < w.heap.size) (hb:a+L≤d.size) (hsz:d.size < 4611686018427387904) (h8:8≤L) :
  Calls Tryz.prog 169 #[.slice (some ⟨blk,off,none⟩) d.size cap,.int .i64 a,.int .i64 ((a+L:Nat):Int)] w fun e w' =>
   e=.returned (.tuple #[])∧∃n os,w'=grow (putRow (Value.int .u16) (Sort.ahead w n) blk off (breakPatterns d a (a+L))) os:=by
 rw [breakPatterns_eq d a L h8]
 obtain⟨M,hM⟩:∃M:Nat,M=1 <<< bitsLen L:=⟨_,rfl⟩
 have hM1:1≤M:=by rw [hM,Nat.one_shiftLeft];exact Nat.two_pow_pos _
 have hM2:M≤2*L:=by rw [hM,Nat.one_shiftLeft];exact two_pow_bitsLen_le (by omega)
 have hNP:∀w,Calls Tryz.prog 191 #[.int .i64 (L:Int)] w fun e w'=>e=.returned (.int .u64 (M:Int))∧w'=w:=by rw [hM];exact fun w=>sI L (by omega) w
 rw [←hM];clear hM;have HH:Hid (Holds (Value.int .u16) w blk off d):=hH
 have HST:Hid (w.alloc (Obj.cells #[.int .u64 (L:Int)] 281)=grow (putRow (Value.int .u16) (Sort.ahead w 0) blk off d) #[Obj.cells #[.int .u64 ((UInt64.ofNat L).toNat:Int)] 281]):=by
  show _=_
  rw [show Sort.ahead w 0=w from rfl,putRow_self _ _ _ _ _ hH,alloc_eq_grow,show (UInt64.ofNat L).toNat=L from by simp;omega]
 clear hH
 go_enter Tryz.func169,Tryz.ntmps169
 go_wp2_with (first | (go_at_call 191;rw [show ((a:Int)+(L:Int) - (a:Int))=(L:Int) by omega];refine (hNP _).mono ?_;rintro e w' ⟨rfl,rfl⟩))
 go_loopw [9] (fun vi wr=>∃(t n:Nat) (r:UInt64) (dk:Array Int),vi=.int .i64 ((a+L / 4*2 - 1+t:Nat):Int)∧t≤3∧dk.size=d.size ∧
  wr=grow (putRow (Value.int .u16) (Sort.ahead w n) blk off dk) #[Obj.cells #[.int .u64 (r.toNat:Int)] 281] ∧
  bpRest a L M (a+L / 4*2 - 1) (3 - t) t (r,dk)=bpRest a L M (a+L / 4*2 - 1) 3 0 (UInt64.ofNat L,d)) (fun vi _=>a+L / 4*2+3 - (intOf vi).toNat)
 case atStart=>exact⟨0,0,UInt64.ofNat L,d,by congr 1;omega,by omega,rfl,HST.o,rfl⟩
 case round =>
 obtain⟨t,n,r,dk,rfl,ht,hsk,hw,hR⟩:=hrel
 obtain⟨R,hRr⟩:∃R:Nat,R=r.toNat:=⟨_,rfl⟩
 have lR:R < 18446744073709551616:=by rw [hRr];exact r.toNat_lt
 obtain⟨R',hR'⟩:∃R':Nat,R'=xorNextN R:=⟨_,rfl⟩
 have lR':R' < 18446744073709551616:=by rw [hR'];exact xorNextN_lt R lR
 obtain⟨O,hO⟩:∃O:Nat,O=R' &&& (M - 1):=⟨_,rfl⟩
 have lO:O≤M - 1:=by rw [hO];exact Nat.and_le_right
 have eAnd:bits .and .u64 (R':Int) ((M:Int) - 1)=(O:Int):=by
  rw [show ((M:Int) - 1)=((M - 1:Nat):Int) by omega,bits_and_u64_nat _ _ lR' (by omega),hO]
 obtain⟨G,hG⟩:∃G:Nat→Int,∀x,G x=dk[x]!:=⟨fun x=>dk[x]!,fun _=>rfl⟩
 have hz:(putRow (Value.int .u16) (Sort.ahead w n) blk off dk).heap.size=w.heap.size:=by simp
 have hcw:∀x,x < d.size→wr.cell? ⟨blk,off+x,none⟩=some (.int .u16 (G x)):=fun x hx=>by
  rw [hw,cell?_grow _ _ _ (by rw [hz];exact hblk),hG];exact cell?_putRow _ _ _ _ d dk (holds_ahead _ _ _ _ _ _ HH.o) hsk x (by omega)
 have hfw:∀x,x < d.size→wr.frozen? ⟨blk,off+x,none⟩=false:=fun x hx=>by
  rw [hw,frozen?_grow _ _ _ (by rw [hz];exact hblk),frozen?_putRow];exact ((holds_ahead _ _ n _ _ _ HH.o) x hx).2
 have hcB:wr.cell? ⟨w.heap.size,0,none⟩=some (.int .u64 (R:Int)):=by rw [hw,hRr,←hz];exact grow_one_cell _ _ _
 have hfB:wr.frozen? ⟨w.heap.size,0,none⟩=false:=by rw [hw,←hz];exact grow_one_frozen _ _ _
 have hNext:Calls Tryz.prog 192 #[.pointer (some ⟨w.heap.size,0,none⟩)] wr fun e w'=>e=.returned (.int .u64 (R':Int))∧w'=(wr.setCell ⟨w.heap.size,0,none⟩ (.int .u64 (R':Int))).drewN 3:=by
  rw [hR'];exact uw _ _ R lR wr hcB hfB
 have HW:Hid (wr=grow (putRow (Value.int .u16) (Sort.ahead w n) blk off dk) #[Obj.cells #[.int .u64 (r.toNat:Int)] 281]):=hw;have HG:Hid (∀x,G x=dk[x]!):=hG;have HR:Hid (bpRest a L M (a+L / 4*2 - 1) (3 - t) t (r,dk)=bpRest a L M (a+L / 4*2 - 1) 3 0 (UInt64.ofNat L,d)):=hR
 have HN:Hid (R'=(xorNext r).toNat∧O=(xorNext r).toNat &&& (M - 1)):=by
  have e:R'=(xorNext r).toNat:=by rw [hR',hRr,xorNext_toNat]
  exact⟨e,by rw [hO,e]⟩
 clear hw hG hR hRr hR' hO
 go_wp2_with (first | (go_at_call 192;refine hNext.mono ?_;rintro e w' ⟨rfl,rfl⟩))
 ·
  have hLO:L≤O:=by omega
  by_cases hEq:a+L / 4*2 - 1+t=a+(O - L)
  all_goals
   go_region
   all_goals go_wp2
   go_roundw
   case rel =>
    refine⟨t+1,n+4,xorNext r,swp dk (a+L / 4*2 - 1+t) (a+(O - L)),by first | rfl | (congr 1<;>omega),by omega,by rw [size_swp];exact hsk,?_,?_⟩
    ·(try rw [hEq])
     rw [HW.o,HN.o.1];simp only [HG.o]
     exact step_world (Value.int .u16) w n 4 blk off dk _ _ hblk (by omega) (by omega) _ _ _
    rw [←HR.o,bp_step a L M _ t r dk (O - L) (by omega) (by rw [←HN.o.2,if_pos (by omega)])]
   case measure=>simp [intOf];omega
 ·have hLO:¬L≤O:=by omega
  by_cases hEq:a+L / 4*2 - 1+t=a+O
  all_goals
   go_region
   all_goals go_wp2
   go_roundw
   case rel =>
    refine⟨t+1,n+4,xorNext r,swp dk (a+L / 4*2 - 1+t) (a+O),by first | rfl | (congr 1<;>omega),by omega,by rw [size_swp];exact hsk,?_,?_⟩
    ·(try rw [hEq])
     rw [HW.o,HN.o.1];simp only [HG.o]
     exact step_world (Value.int .u16) w n 4 blk off dk _ _ hblk (by omega) (by omega) _ _ _
    rw [←HR.o,bp_step a L M _ t r dk O (by omega) (by rw [←HN.o.2,if_neg (by omega)])]
   case measure=>simp [intOf];omega
 ·
  obtain rfl:t=3:=by omega
  go_end0
  exact⟨rfl,n,_,by rw [←HR.o,HW.o];rfl⟩
theorem pU (blk off cap a b:Nat) (d:Array Int) (w:World) (hH:Holds (Value.int .u16) w blk off d) (hblk:blk < w.heap.size) (hab:a≤b) (hb:b≤d.size) (hsz:d.size < 4611686018427387904) :
  Calls Tryz.prog 169 #[.slice (some ⟨blk,off,none⟩) d.size cap,.int .i64 a,.int .i64 b] w fun e w' =>
   e=.returned (.tuple #[])∧∃n os,w'=grow (putRow (Value.int .u16) (Sort.ahead w n) blk off (breakPatterns d a b)) os:=by
 obtain⟨L,rfl⟩:∃L,b=a+L:=⟨b - a,by omega⟩
 by_cases h8:8≤L
 ·exact mZ blk off cap a L d w hH hblk hb hsz h8
 have hv:breakPatterns d a (a+L)=d:=by unfold breakPatterns;simp only [Nat.add_sub_cancel_left];rw [if_neg h8]
 rw [hv]
 have HST:Hid (w=grow (putRow (Value.int .u16) (Sort.ahead w 0) blk off d) #[]):=by
  show _=_
  rw [grow_empty,show Sort.ahead w 0=w from rfl,putRow_self _ _ _ _ _ hH]
 clear hH
 go_enter Tryz.func169,Tryz.ntmps169
 go_wp2
 go_end0
 exact⟨rfl,0,#[],HST.o⟩
abbrev one (s:Nat):Array Int:=#[(s:Int)]
theorem one_cell {w:World} {sb so s:Nat} (h:Holds (Value.int .i64) w sb so (one s)):w.cell? ⟨sb,so,none⟩=some (.int .i64 s)∧w.frozen? ⟨sb,so,none⟩=false:=by simpa using h 0 (by simp)
theorem one_set {w:World} {sb so s:Nat} (h:Holds (Value.int .i64) w sb so (one s)) (t:Nat):w.setCell ⟨sb,so,none⟩ (.int .i64 t)=putRow (Value.int .i64) w sb so (one t):=by
 have:=putRow_set (Value.int .i64) w sb so (one s) 0 (t:Int) (by simp)
 rw [putRow_self _ _ _ _ _ h] at this
 simpa using this
theorem holds_aside {w:World} {blk off sb so n t:Nat} {d:Array Int} (h:Holds (Value.int .u16) w blk off d) (hne:sb≠blk):Holds (Value.int .u16) (putRow (Value.int .i64) (Sort.ahead w n) sb so (one t)) blk off d:=fun j hj =>
 ⟨by rw [cell?_putRow_other _ _ _ _ _ _ (Or.inl (Ne.symm hne))];exact (h j hj).1,by rw [frozen?_putRow];exact (h j hj).2⟩
theorem one_one (w:World) (n m sb so s t:Nat):putRow (Value.int .i64) (Sort.ahead (putRow (Value.int .i64) (Sort.ahead w n) sb so (one s)) m) sb so (one t)=putRow (Value.int .i64) (Sort.ahead w (n+m)) sb so (one t) :=
 putRow_ahead_putRow _ _ _ _ _ _ _ _ rfl
theorem mE (d:Array Int) (len:Nat) (hlen:d.size=len) (blk off cap a b sb so s:Nat) (w:World) (hH:Holds (Value.int .u16) w blk off d) (ha:a < d.size) (hb:b < d.size)
  (hS:Holds (Value.int .i64) w sb so (one s)) (hs:s < 2 ^ 62) :
  Calls Tryz.prog 228 #[.slice (some ⟨blk,off,none⟩) len cap,.int .i64 a,.int .i64 b,.pointer (some ⟨sb,so,none⟩)] w fun e w' =>
   e=.returned (.tuple #[.int .i64 (order2 ltInt d a b s).1,.int .i64 (order2 ltInt d a b s).2.1])∧∃n,w'=putRow (Value.int .i64) (Sort.ahead w n) sb so (one (order2 ltInt d a b s).2.2):=by
 subst hlen
 replace hs:s < 4611686018427387904:=by omega
 have ca:=(hH a ha).1;have cb:=(hH b hb).1;obtain⟨cs,fs⟩:=one_cell hS;have ea:d[a]! = d[a]:=getElem!_pos d a ha;have eb:d[b]! = d[b]:=getElem!_pos d b hb
 go_enter Tryz.func228,Tryz.ntmps228
 go_wp2
 go_region_with (go_at_call 173;refine (ay _ _ _).mono ?_;rintro e w' ⟨rfl,rfl⟩)
 all_goals (try go_wp2)
 all_goals first
  | (have hlt:ltInt d[b] d[a]=true:=by assumption
     have e2:order2 ltInt d a b s=(b,a,s+1):=by simp [order2,ea,eb,hlt]
     go_ret2
     rw [e2]
     refine⟨rfl,1,?_⟩
     rw [putRow_ahead,←one_set hS (s+1)]
     simp [drew_eq_ahead])
  | (have hlt:ltInt d[b] d[a]=false:=by assumption
     have e2:order2 ltInt d a b s=(a,b,s):=by simp [order2,ea,eb,hlt]
     go_ret2
     rw [e2]
     refine⟨rfl,1,?_⟩
     rw [putRow_ahead,putRow_self _ _ _ _ _ hS]
     rfl)
theorem order2_lt (d:Array Int) {a b n:Nat} (s:Nat) (ha:a < n) (hb:b < n):(order2 ltInt d a b s).1 < n∧(order2 ltInt d a b s).2.1 < n:=by
 have:=order2_mem ltInt d a b s
 omega
theorem order2_swaps (d:Array Int) (a b s:Nat):(order2 ltInt d a b s).2.2≤s+1:=by
 unfold order2
 split<;>simp
theorem holds_one {w:World} {sb so s n t:Nat} (h:Holds (Value.int .i64) w sb so (one s)):Holds (Value.int .i64) (putRow (Value.int .i64) (Sort.ahead w n) sb so (one t)) sb so (one t) :=
 holds_putRow _ _ _ _ (one s) (one t) (holds_ahead _ _ _ _ _ _ h) rfl
theorem ru (d:Array Int) (len:Nat) (hlen:d.size=len) (blk off cap a b c sb so s:Nat) (w:World) (hH:Holds (Value.int .u16) w blk off d) (ha:a < d.size) (hb:b < d.size) (hc:c < d.size) (hne:sb≠blk)
  (hS:Holds (Value.int .i64) w sb so (one s)) (hs:s+3 < 2 ^ 62) :
  Calls Tryz.prog 201 #[.slice (some ⟨blk,off,none⟩) len cap,.int .i64 a,.int .i64 b,.int .i64 c,.pointer (some ⟨sb,so,none⟩)] w fun e w' =>
   e=.returned (.int .i64 (median ltInt d a b c s).1)∧∃n,w'=putRow (Value.int .i64) (Sort.ahead w n) sb so (one (median ltInt d a b c s).2):=by
 subst hlen
 have l1:=order2_lt d s ha hb;have s1:=order2_swaps d a b s;have l2:=order2_lt d (order2 ltInt d a b s).2.2 l1.2 hc;have s2:=order2_swaps d (order2 ltInt d a b s).2.1 c (order2 ltInt d a b s).2.2
 go_enter Tryz.func201,Tryz.ntmps201
 go_wp2_with (go_at_call_of 228 (Value.int .i64 (b:Int));refine (mE d _ rfl blk off cap a b sb so s w hH ha hb hS (by omega)).mono ?_;rintro e w' ⟨rfl,n1,rfl⟩)
 go_wp2_with (go_at_call_of 228 (Value.int .i64 (c:Int));refine (mE d _ rfl blk off cap (order2 ltInt d a b s).2.1 c sb so (order2 ltInt d a b s).2.2 _ (holds_aside hH hne) l1.2 hc (holds_one hS) (by omega)).mono ?_;rintro e w' ⟨rfl,n2,rfl⟩)
 go_wp2_with (go_at_call_of 228 (Value.int .i64 ((order2 ltInt d a b s).1:Int));refine (mE d _ rfl blk off cap (order2 ltInt d a b s).1 (order2 ltInt d (order2 ltInt d a b s).2.1 c (order2 ltInt d a b s).2.2).1 sb so (order2 ltInt d (order2 ltInt d a b s).2.1 c (order2 ltInt d a b s).2.2).2.2 _
  (holds_aside (holds_aside hH hne) hne) l1.1 l2.1 (holds_one (holds_one hS)) (by omega)).mono ?_;rintro e w' ⟨rfl,n3,rfl⟩)
 go_ret
 refine⟨rfl,n1+(n2+n3),?_⟩
 rw [one_one,one_one]
 rfl
theorem oq (d:Array Int) (len:Nat) (hlen:d.size=len) (blk off cap a sb so s:Nat) (w:World) (hH:Holds (Value.int .u16) w blk off d) (ha0:1≤a) (ha:a+1 < d.size) (hsz:d.size < 2 ^ 62) (hne:sb≠blk)
  (hS:Holds (Value.int .i64) w sb so (one s)) (hs:s+3 < 2 ^ 62) :
  Calls Tryz.prog 200 #[.slice (some ⟨blk,off,none⟩) len cap,.int .i64 a,.pointer (some ⟨sb,so,none⟩)] w fun e w' =>
   e=.returned (.int .i64 (medianAdjacent ltInt d a s).1)∧∃n,w'=putRow (Value.int .i64) (Sort.ahead w n) sb so (one (medianAdjacent ltInt d a s).2):=by
 subst hlen
 replace hsz:d.size < 4611686018427387904:=by omega
 go_enter Tryz.func200,Tryz.ntmps200
 go_wp2_with (go_at_call 201;rw [show ((a:Int) - 1)=((a - 1:Nat):Int) by omega,show ((a:Int)+1)=((a+1:Nat):Int) by omega];refine (ru d _ rfl blk off cap (a - 1) a (a+1) sb so s w hH (by omega) (by omega) ha hne hS hs).mono ?_;rintro e w' ⟨rfl,n1,rfl⟩)
 go_ret
 exact⟨rfl,n1,rfl⟩
theorem of_beq_int {x y:Int} (h:(x==y)=true):x=y:=by simpa using h
theorem of_bne_int {x y:Int} (h:(x==y)=false):x≠y:=by simpa using h
theorem counter_grow (w:World) (N S:Nat):∃os,putRow (Value.int .i64) (Sort.ahead (w.alloc (.cells #[.int .i64 0] 3)) N) w.heap.size 0 (one S)=grow (Sort.ahead w N) os:=by
 rw [alloc_eq_grow,ahead_grow]
 obtain⟨os,_,h⟩:=putRow_grow_new (Value.int .i64) (Sort.ahead w N) #[.cells #[.int .i64 0] 3] w.heap.size 0 (one S) (Nat.le_refl _)
 exact⟨os,h⟩
theorem pivot_world_int (blk off cap:Nat) (d:Array Int) (w:World) (hH:Holds (Value.int .u16) w blk off d) (hblk:blk < w.heap.size) (hsz:d.size < 4611686018427387904) :
  ∃Wc:Nat→Nat→World,
   w.alloc (.cells #[.int .i64 0] 3)=Wc 0 0 ∧
   (∀N S:Nat,(Wc N S).cell? ⟨w.heap.size,0,none⟩=some (.int .i64 (S:Int))) ∧
   (∀N S:Nat,∃os,Wc N S=grow (Sort.ahead w N) os) ∧
   (∀x s N:Nat,1≤x→x+1 < d.size→s+3 < 4611686018427387904→Calls Tryz.prog 200 #[.slice (some ⟨blk,off,none⟩) d.size cap,.int .i64 (x:Int),.pointer (some ⟨w.heap.size,0,none⟩)] (Wc N s) fun e w' =>
    e=.returned (.int .i64 ((medianAdjacent ltInt d x s).1:Int))∧∃N',w'=Wc N' (medianAdjacent ltInt d x s).2) ∧
   (∀x y z s N:Nat,x < d.size→y < d.size→z < d.size→s+3 < 4611686018427387904→Calls Tryz.prog 201 #[.slice (some ⟨blk,off,none⟩) d.size cap,.int .i64 (x:Int),.int .i64 (y:Int),.int .i64 (z:Int),.pointer (some ⟨w.heap.size,0,none⟩)] (Wc N s) fun e w' =>
    e=.returned (.int .i64 ((median ltInt d x y z s).1:Int))∧∃N',w'=Wc N' (median ltInt d x y z s).2):=by
 have hne:w.heap.size≠blk:=by omega
 have hH0:Holds (Value.int .u16) (w.alloc (.cells #[.int .i64 0] 3)) blk off d:=by rw [alloc_eq_grow];exact holds_grow _ _ _ _ _ _ hblk hH
 have hS0:Holds (Value.int .i64) (w.alloc (.cells #[.int .i64 0] 3)) w.heap.size 0 (one 0):=fun j hj=>by
  obtain rfl:j=0:=by simpa using hj
  simp
 refine⟨fun N S=>putRow (Value.int .i64) (Sort.ahead (w.alloc (.cells #[.int .i64 0] 3)) N) w.heap.size 0 (one S),(putRow_self _ _ _ _ _ hS0).symm,fun N S=>(one_cell (holds_one (n:=N) (t:=S) hS0)).1,fun N S=>counter_grow w N S,?_,?_⟩
 ·intro x s N h1 h2 hs
  refine (oq d _ rfl blk off cap x w.heap.size 0 s _ (holds_aside hH0 hne) h1 h2 (by omega) hne (holds_one hS0) (by omega)).mono ?_
  rintro e w' ⟨he,n,hw⟩
  exact⟨he,N+n,by rw [hw,one_one]⟩
 intro x y z s N h1 h2 h3 hs
 refine (ru d _ rfl blk off cap x y z w.heap.size 0 s _ (holds_aside hH0 hne) h1 h2 h3 hne (holds_one hS0) (by omega)).mono ?_
 rintro e w' ⟨he,n,hw⟩
 exact⟨he,N+n,by rw [hw,one_one]⟩
theorem rW (blk off cap a b:Nat) (d:Array Int) (w:World) (hH:Holds (Value.int .u16) w blk off d) (hblk:blk < w.heap.size) (hab:a < b) (hb:b≤d.size) (hsz:d.size < 4611686018427387904) :
  Calls Tryz.prog 170 #[.slice (some ⟨blk,off,none⟩) d.size cap,.int .i64 a,.int .i64 b] w fun e w' =>
   e=.returned (.tuple #[.int .i64 (choosePivot ltInt d a b).1,.int .i64 (hintCode (choosePivot ltInt d a b).2)])∧∃n os,w'=grow (Sort.ahead w n) os:=by
 obtain⟨Wc,hW0,cS,hG,MA,MD⟩:=pivot_world_int blk off cap d w hH hblk hsz
 clear hH;rw [choosePivot_eq];obtain⟨I,hI⟩:∃I:Nat,I=a+(b - a) / 4*1:=⟨_,rfl⟩;obtain⟨J,hJ⟩:∃J:Nat,J=a+(b - a) / 4*2:=⟨_,rfl⟩;obtain⟨K,hK⟩:∃K:Nat,K=a+(b - a) / 4*3:=⟨_,rfl⟩
 have eI:((a:Int)+((b:Int) - (a:Int)) / 4)=(I:Int):=by omega
 have eJ:((a:Int)+((b:Int) - (a:Int)) / 4*2)=(J:Int):=by omega
 have eK:((a:Int)+((b:Int) - (a:Int)) / 4*3)=(K:Int):=by omega
 by_cases h8:b - a≥8
 ·by_cases h50:b - a≥50
  ·
   obtain⟨i1,s1,h1⟩:∃i1 s1,medianAdjacent ltInt d I 0=(i1,s1):=⟨_,_,rfl⟩;obtain⟨j1,s2,h2⟩:∃j1 s2,medianAdjacent ltInt d J s1=(j1,s2):=⟨_,_,rfl⟩;obtain⟨k1,s3,h3⟩:∃k1 s3,medianAdjacent ltInt d K s2=(k1,s3):=⟨_,_,rfl⟩;obtain⟨p,s,h4⟩:∃p s,median ltInt d i1 j1 k1 s3=(p,s):=⟨_,_,rfl⟩
   have hraw:rawPivot ltInt d a b=(p,s):=by simp only [rawPivot,if_pos h8,if_pos h50,←hI,←hJ,←hK,h1,h2,h3,h4]
   have m1:=medianAdjacent_mem ltInt d I 0;rw [h1] at m1;have m2:=medianAdjacent_mem ltInt d J s1;rw [h2] at m2;have m3:=medianAdjacent_mem ltInt d K s2;rw [h3] at m3;have n1:=medianAdjacent_count ltInt d I 0;rw [h1] at n1;have n2:=medianAdjacent_count ltInt d J s1;rw [h2] at n2;have n3:=medianAdjacent_count ltInt d K s2;rw [h3] at n3;simp only [] at m1 m2 m3 n1 n2 n3
   have c1:Calls Tryz.prog 200 #[.slice (some ⟨blk,off,none⟩) d.size cap,.int .i64 (I:Int),.pointer (some ⟨w.heap.size,0,none⟩)] (Wc 0 0) fun e w'=>e=.returned (.int .i64 (i1:Int))∧∃N',w'=Wc N' s1:=by
    have h:=MA I 0 0 (by omega) (by omega) (by omega);rw [h1] at h;exact h
   have c2:∀N,Calls Tryz.prog 200 #[.slice (some ⟨blk,off,none⟩) d.size cap,.int .i64 (J:Int),.pointer (some ⟨w.heap.size,0,none⟩)] (Wc N s1) fun e w'=>e=.returned (.int .i64 (j1:Int))∧∃N',w'=Wc N' s2:=fun N=>by
    have h:=MA J s1 N (by omega) (by omega) (by omega);rw [h2] at h;exact h
   have c3:∀N,Calls Tryz.prog 200 #[.slice (some ⟨blk,off,none⟩) d.size cap,.int .i64 (K:Int),.pointer (some ⟨w.heap.size,0,none⟩)] (Wc N s2) fun e w'=>e=.returned (.int .i64 (k1:Int))∧∃N',w'=Wc N' s3:=fun N=>by
    have h:=MA K s2 N (by omega) (by omega) (by omega);rw [h3] at h;exact h
   have c4:∀N,Calls Tryz.prog 201 #[.slice (some ⟨blk,off,none⟩) d.size cap,.int .i64 (i1:Int),.int .i64 (j1:Int),.int .i64 (k1:Int),.pointer (some ⟨w.heap.size,0,none⟩)] (Wc N s3) fun e w'=>e=.returned (.int .i64 (p:Int))∧∃N',w'=Wc N' s:=fun N=>by
    have h:=MD i1 j1 k1 s3 N (by omega) (by omega) (by omega) (by omega);rw [h4] at h;exact h
   rw [hraw];obtain⟨Hc,hHc⟩:∃Hc:Int,Hc=hintCode (hintOf s):=⟨_,rfl⟩
   have hh0:s=0→Hc=1:=fun h=>by rw [hHc,h];rfl
   have hh12:s=12→Hc=2:=fun h=>by rw [hHc,h];rfl
   have hhx:s≠0→s≠12→Hc=0:=fun h1 h2=>by rw [hHc];unfold hintOf;rw [if_neg h1,if_neg h2];rfl
   show Calls Tryz.prog 170 _ w fun e w'=>e=.returned (.tuple #[.int .i64 (p:Int),.int .i64 (hintCode (hintOf s))])∧∃n os,w'=grow (Sort.ahead w n) os
   rw [←hHc];clear hHc hraw;clear h1 h2 h3 h4 MA MD hI hJ hK m1 m2 m3
   go_enter Tryz.func170,Tryz.ntmps170
   go_wp2_with (first
    | (go_at_call_has 200 (Value.int .i64 (I:Int));refine c1.mono ?_;rintro e w' ⟨rfl,N1,rfl⟩)
    | (go_at_call_has 200 (Value.int .i64 (J:Int));refine (c2 _).mono ?_;rintro e w' ⟨rfl,N2,rfl⟩)
    | (go_at_call_has 200 (Value.int .i64 (K:Int));refine (c3 _).mono ?_;rintro e w' ⟨rfl,N3,rfl⟩)
    | (go_at_call 201;refine (c4 _).mono ?_;rintro e w' ⟨rfl,N4,rfl⟩))
   all_goals
    go_ret2
    refine⟨?_,_,hG _ _⟩
    first
     | (have e0:(s:Int)=0:=of_beq_int (by assumption)
        rw [hh0 (by omega)];rfl)
     | (have e1:(s:Int)=12:=of_beq_int (by assumption)
        rw [hh12 (by omega)];rfl)
     | (have e0:(s:Int)≠0:=of_bne_int (by assumption)
        have e1:(s:Int)≠12:=of_bne_int (by assumption)
        rw [hhx (by omega) (by omega)];rfl)
     | (rw [hh0 (by omega)];rfl)
  ·
   obtain⟨p,s,h4⟩:∃p s,median ltInt d I J K 0=(p,s):=⟨_,_,rfl⟩
   have hraw:rawPivot ltInt d a b=(p,s):=by simp only [rawPivot,if_pos h8,if_neg h50,←hI,←hJ,←hK,h4]
   have c4:Calls Tryz.prog 201 #[.slice (some ⟨blk,off,none⟩) d.size cap,.int .i64 (I:Int),.int .i64 (J:Int),.int .i64 (K:Int),.pointer (some ⟨w.heap.size,0,none⟩)] (Wc 0 0) fun e w'=>e=.returned (.int .i64 (p:Int))∧∃N',w'=Wc N' s:=by
    have h:=MD I J K 0 0 (by omega) (by omega) (by omega) (by omega);rw [h4] at h;exact h
   rw [hraw];obtain⟨Hc,hHc⟩:∃Hc:Int,Hc=hintCode (hintOf s):=⟨_,rfl⟩
   have hh0:s=0→Hc=1:=fun h=>by rw [hHc,h];rfl
   have hh12:s=12→Hc=2:=fun h=>by rw [hHc,h];rfl
   have hhx:s≠0→s≠12→Hc=0:=fun h1 h2=>by rw [hHc];unfold hintOf;rw [if_neg h1,if_neg h2];rfl
   show Calls Tryz.prog 170 _ w fun e w'=>e=.returned (.tuple #[.int .i64 (p:Int),.int .i64 (hintCode (hintOf s))])∧∃n os,w'=grow (Sort.ahead w n) os
   rw [←hHc];clear hHc hraw;clear h4 MA MD hI hJ hK
   go_enter Tryz.func170,Tryz.ntmps170
   go_wp2_with (first | (go_at_call 201;refine c4.mono ?_;rintro e w' ⟨rfl,N4,rfl⟩))
   all_goals
    go_ret2
    refine⟨?_,_,hG _ _⟩
    first
     | (have e0:(s:Int)=0:=of_beq_int (by assumption)
        rw [hh0 (by omega)];rfl)
     | (have e1:(s:Int)=12:=of_beq_int (by assumption)
        rw [hh12 (by omega)];rfl)
     | (have e0:(s:Int)≠0:=of_bne_int (by assumption)
        have e1:(s:Int)≠12:=of_bne_int (by assumption)
        rw [hhx (by omega) (by omega)];rfl)
     | (rw [hh0 (by omega)];rfl)
 ·
  obtain⟨p,hp⟩:∃p:Nat,p=J:=⟨_,rfl⟩;obtain⟨s,hs⟩:∃s:Nat,s=0:=⟨_,rfl⟩
  have hraw:rawPivot ltInt d a b=(p,s):=by simp only [rawPivot,if_neg h8,←hJ,hp,hs]
  rw [hraw];obtain⟨Hc,hHc⟩:∃Hc:Int,Hc=hintCode (hintOf s):=⟨_,rfl⟩
  have hh0:s=0→Hc=1:=fun h=>by rw [hHc,h];rfl
  have hh12:s=12→Hc=2:=fun h=>by rw [hHc,h];rfl
  have hhx:s≠0→s≠12→Hc=0:=fun h1 h2=>by rw [hHc];unfold hintOf;rw [if_neg h1,if_neg h2];rfl
  show Calls Tryz.prog 170 _ w fun e w'=>e=.returned (.tuple #[.int .i64 (p:Int),.int .i64 (hintCode (hintOf s))])∧∃n os,w'=grow (Sort.ahead w n) os
  rw [←hHc];clear hHc hraw
  subst hp
  clear MA MD hI hJ hK
  have hW0':w.alloc (.cells #[.int .i64 0] 3)=Wc 0 s:=by rw [hs];exact hW0
  clear hW0
  go_enter Tryz.func170,Tryz.ntmps170
  go_wp2
  all_goals
   go_ret2
   refine⟨?_,_,hG _ _⟩
   first
    | (have e0:(s:Int)=0:=of_beq_int (by assumption)
       rw [hh0 (by omega)];rfl)
    | (have e1:(s:Int)=12:=of_beq_int (by assumption)
       rw [hh12 (by omega)];rfl)
    | (have e0:(s:Int)≠0:=of_bne_int (by assumption)
       have e1:(s:Int)≠12:=of_bne_int (by assumption)
       rw [hhx (by omega) (by omega)];rfl)
    | (rw [hh0 (by omega)];rfl)
theorem swap_worldC {α:Type} [Inhabited α] (enc:α→Value) (w:World) (blk off:Nat) (dk:Array α) (n i j:Nat) (hi:i < dk.size) (hj:j < dk.size) :
  ((((putRow enc w blk off dk).drewN n).setCell ⟨blk,off+i,none⟩ (enc dk[j]!)).setCell ⟨blk,off+j,none⟩ (enc dk[i]!)).drew=(putRow enc w blk off (swp dk i j)).drewN (n+1):=by
 rw [←putRow_swp enc w blk off dk i j hi hj]
 rfl
section
variable {α:Type} [Inhabited α]
theorem scanUp_go (p:α→Bool) (d:Array α) (j i:Nat) (h:i≤j) (hp:p d[i]! = true):scanUp p d j i=scanUp p d j (i+1):=by
 rw [scanUp,if_pos (by simp [h,hp])]
theorem scanUp_end (p:α→Bool) (d:Array α) (j i:Nat) (h:¬i≤j∨p d[i]! = false):scanUp p d j i=i:=by
 rw [scanUp,if_neg (by rcases h with h | h<;>simp [h])]
theorem scanDown_go (p:α→Bool) (d:Array α) (i j:Nat) (h:i≤j) (h0:0 < j) (hp:p d[j]! = true):scanDown p d i j=scanDown p d i (j - 1):=by
 obtain⟨k,rfl⟩:∃k,j=k+1:=⟨j - 1,by omega⟩
 rw [scanDown,if_pos (by simp [h,hp])]
 rfl
theorem scanDown_end (p:α→Bool) (d:Array α) (i j:Nat) (h:¬i≤j∨p d[j]! = false):scanDown p d i j=j:=by
 cases j with
 | zero=>rfl
 | succ k=>rw [scanDown,if_neg (by rcases h with h | h<;>simp [h])]
variable (lt:α→α→Bool)
theorem partEq_break (a i j:Nat) (dk:Array α) {i2 j2:Nat} (hi2:i2=scanUp (fun x=>!lt dk[a]! x) dk j i) (hj2:j2=scanDown (fun x=>lt dk[a]! x) dk i2 j) (h:j2 < i2):partEqLoop lt a i j dk=(i2,dk):=by
 subst hi2;subst hj2
 rw [partEqLoop_eq,if_pos h]
theorem partEq_go (a i j:Nat) (dk:Array α) {i2 j2:Nat} (hi2:i2=scanUp (fun x=>!lt dk[a]! x) dk j i) (hj2:j2=scanDown (fun x=>lt dk[a]! x) dk i2 j) (h:¬i2 > j2):partEqLoop lt a i j dk=partEqLoop lt a (i2+1) (j2 - 1) (swp dk i2 j2):=by
 subst hi2;subst hj2
 rw [partEqLoop_eq,if_neg h]
theorem scans_lt (a i j:Nat) (dk:Array α) (h0:0 < i) {i2 j2:Nat} (hi2:i2=scanUp (fun x=>!lt dk[a]! x) dk j i) (hj2:j2=scanDown (fun x=>lt dk[a]! x) dk i2 j) (h:i2≤j2):i2 < j2:=by
 subst hi2;subst hj2
 obtain⟨u1,_,_,u4⟩:=scanUp_spec (fun x=>!lt dk[a]! x) dk j _ i rfl
 obtain⟨v1,_,_,v4⟩:=scanDown_spec (fun x=>lt dk[a]! x) dk (scanUp (fun x=>!lt dk[a]! x) dk j i) j
 rcases Nat.lt_or_ge (scanUp (fun x=>!lt dk[a]! x) dk j i) (scanDown (fun x=>lt dk[a]! x) dk (scanUp (fun x=>!lt dk[a]! x) dk j i) j) with h' | h'
 ·exact h'
 have e:scanDown (fun x=>lt dk[a]! x) dk (scanUp (fun x=>!lt dk[a]! x) dk j i) j=scanUp (fun x=>!lt dk[a]! x) dk j i:=by omega
 have f1:=u4 (by omega)
 have f2:=v4 h (by omega)
 rw [e] at f2;simp only [f2] at f1
 cases f1
end
theorem ou (blk off cap a b pivot:Nat) (d:Array Int) (w:World) (hH:Holds (Value.int .u16) w blk off d) (hap:a≤pivot) (hpb:pivot < b) (hb:b≤d.size) (hsz:d.size < 4611686018427387904) :
  Calls Tryz.prog 174 #[.slice (some ⟨blk,off,none⟩) d.size cap,.int .i64 a,.int .i64 b,.int .i64 pivot] w fun e w' =>
   e=.returned (.int .i64 (Sort.partitionEqual Sort.ltInt d a b pivot).1)∧∃n,w'=(putRow (Value.int .u16) w blk off (Sort.partitionEqual Sort.ltInt d a b pivot).2).drewN n:=by
 have hla:a < d.size:=by omega
 have hlp:pivot < d.size:=by omega
 obtain⟨G,hG⟩:∃G:Nat→Int,∀j,G j=d[j]!:=⟨fun j=>d[j]!,fun _=>rfl⟩
 have ca:w.cell? ⟨blk,off+a,none⟩=some (.int .u16 (G a)):=by rw [hG];exact (hH a hla).1
 have fa:=(hH a hla).2
 have cp:w.cell? ⟨blk,off+pivot,none⟩=some (.int .u16 (G pivot)):=by rw [hG];exact (hH pivot hlp).1
 have fp:=(hH pivot hlp).2
 obtain⟨v',hy'⟩:=cell?_setCell_some (w:=w) (p:=⟨blk,off+a,none⟩) (x:=.int .u16 (G pivot)) (q:=⟨blk,off+pivot,none⟩) cp
 have AG:Hid (∀j,G j=d[j]!):=hG;have AH:Hid (Holds (Value.int .u16) w blk off d):=hH;clear hG hH
 go_enter Tryz.func174,Tryz.ntmps174
 go_wp2
 go_region
 go_wp2
 go_loopw [9,10] (fun vi vj wr=>∃(i j n:Nat) (dk:Array Int),vi=.int .i64 i∧vj=.int .i64 j∧a < i∧i≤j+1∧j < b∧dk.size=d.size∧wr=(putRow (Value.int .u16) w blk off dk).drewN n ∧
   Sort.partEqLoop Sort.ltInt a i j dk=Sort.partEqLoop Sort.ltInt a (a+1) (b - 1) (Sort.swp d a pivot))
  (fun vi vj _=>(intOf vj).toNat+1 - (intOf vi).toNat)
 case atStart =>
  refine⟨a+1,b - 1,1,Sort.swp d a pivot,by go_num,by go_num,by omega,by omega,by omega,size_swp _ _ _,?_,rfl⟩
  have e:=swap_worldC (Value.int .u16) w blk off d 0 a pivot hla hlp;rw [putRow_self _ w blk off d AH.out] at e;rw [AG.out a,AG.out pivot]
  exact e
 case round =>
 obtain⟨i,j,n,dk,rfl,rfl,hai,hij,hjb,hs,hw,heq⟩:=hrel
 clear ca fa cp fp hy' v' AG
 rename World=>W1
 have hHk:Holds (Value.int .u16) W1 blk off dk:=by
  rw [hw]
  exact holds_putRow (Value.int .u16) w blk off d dk AH.out hs
 obtain⟨Gk,hG⟩:∃Gk:Nat→Int,∀t,Gk t=dk[t]!:=⟨fun t=>dk[t]!,fun _=>rfl⟩
 have hc:∀t,t < d.size→W1.cell? ⟨blk,off+t,none⟩=some (.int .u16 (Gk t)):=fun t ht=>by rw [hG];exact (hHk t (by omega)).1
 have hf:∀t,t < d.size→W1.frozen? ⟨blk,off+t,none⟩=false:=fun t ht=>(hHk t (by omega)).2
 have AG:Hid (∀t,Gk t=dk[t]!):=hG;have AW:Hid (W1=(putRow (Value.int .u16) w blk off dk).drewN n):=hw;have AE:Hid (Sort.partEqLoop Sort.ltInt a i j dk=Sort.partEqLoop Sort.ltInt a (a+1) (b - 1) (Sort.swp d a pivot)):=heq;clear hG hw heq hHk
 go_wp2
 go_loopw [9] (fun vi w1=>∃(i' n1:Nat),vi=.int .i64 i'∧i≤i'∧i'≤j+1∧w1=W1.drewN n1 ∧
   Hid (Sort.scanUp (fun x=>!Sort.ltInt dk[a]! x) dk j i'=Sort.scanUp (fun x=>!Sort.ltInt dk[a]! x) dk j i))
  (fun vi _=>j+1 - (intOf vi).toNat)
 case atStart=>exact⟨i,0,rfl,Nat.le_refl _,hij,rfl,rfl⟩
 case round =>
 obtain⟨i',n1,rfl,hii,hij',hw1,hsc⟩:=hrel
 have hcw:∀t,t < d.size→wr.cell? ⟨blk,off+t,none⟩=some (.int .u16 (Gk t)):=fun t ht=>by rw [hw1];exact hc t ht
 have HW1:Hid (wr=W1.drewN n1):=hw1;clear hw1
 by_cases hle:i'≤j
 ·go_wp2_with fail
  go_big_quiet (first | (go_at_call 173;refine Calls.quiet_of_same (ay _ _ _)))
  go_wp2
  ·
   have ht:(!Sort.ltInt (Gk a) (Gk i'))=true:=by assumption
   go_roundw
   case rel=>exact⟨i'+1,n1+nq,by go_num,by omega,by omega,by rw [HW1.o,World.drewN_drewN],(scanUp_go (fun x=>!Sort.ltInt dk[a]! x) dk j i' hle (by rw [←AG.out a,←AG.out i'];exact ht)).symm.trans hsc.out⟩
   case measure=>simp [intOf];omega
  ·
   have ht:(!Sort.ltInt (Gk a) (Gk i'))=false:=by assumption
   have hi2:Hid (i'=Sort.scanUp (fun x=>!Sort.ltInt dk[a]! x) dk j i):=(scanUp_end (fun x=>!Sort.ltInt dk[a]! x) dk j i' (Or.inr (by rw [←AG.out a,←AG.out i'];exact ht))).symm.trans hsc.out
   clear ht
   have hw2:wr.drewN nq=W1.drewN (n1+nq):=by rw [HW1.o,World.drewN_drewN]
   clear hcw HW1 hsc
   go_loopw [10] (fun vj w2=>∃(j' n2:Nat),vj=.int .i64 j'∧j'≤j∧i'≤j'+1∧w2=W1.drewN n2 ∧
     Hid (Sort.scanDown (fun x=>Sort.ltInt dk[a]! x) dk i' j'=Sort.scanDown (fun x=>Sort.ltInt dk[a]! x) dk i' j))
    (fun vj _=>(intOf vj).toNat)
   case atStart=>exact⟨j,n1+nq,rfl,Nat.le_refl _,hij',hw2,rfl⟩
   case round =>
   clear hw2
   obtain⟨j',n2,rfl,hjj,hij2,hw2,hsd⟩:=hrel
   have hcw:∀t,t < d.size→wr.cell? ⟨blk,off+t,none⟩=some (.int .u16 (Gk t)):=fun t ht=>by rw [hw2];exact hc t ht
   have HW2:Hid (wr=W1.drewN n2):=hw2;clear hw2
   by_cases hle2:i'≤j'
   ·go_wp2_with fail
    go_big_quiet (first | (go_at_call 173;refine Calls.quiet_of_same (ay _ _ _)))
    go_wp2
    ·
     have ht:Sort.ltInt (Gk a) (Gk j')=true:=by assumption
     go_roundw
     case rel=>exact⟨j' - 1,n2+nq,by go_num,by omega,by omega,by rw [HW2.o,World.drewN_drewN],(scanDown_go (fun x=>Sort.ltInt dk[a]! x) dk i' j' hle2 (by omega) (by rw [←AG.out a,←AG.out j'];exact ht)).symm.trans hsd.out⟩
     case measure=>simp [intOf];omega
    ·
     have ht:Sort.ltInt (Gk a) (Gk j')=false:=by assumption
     have hj2:Hid (j'=Sort.scanDown (fun x=>Sort.ltInt dk[a]! x) dk i' j):=(scanDown_end (fun x=>Sort.ltInt dk[a]! x) dk i' j' (Or.inr (by rw [←AG.out a,←AG.out j'];exact ht))).symm.trans hsd.out
     clear hcw hsd ht
     have hw3:wr.drewN nq=W1.drewN (n2+nq):=by rw [HW2.o,World.drewN_drewN]
     generalize wr.drewN nq=W3 at hw3 ⊢
     have hc3:∀t,t < d.size→W3.cell? ⟨blk,off+t,none⟩=some (.int .u16 (Gk t)):=fun t ht=>by rw [hw3];exact hc t ht
     have hf3:∀t,t < d.size→W3.frozen? ⟨blk,off+t,none⟩=false:=fun t ht=>by rw [hw3];exact hf t ht
     have HW3:Hid (W3=W1.drewN (n2+nq)):=hw3;clear hw3
     obtain⟨v3,hy3⟩:=cell?_setCell_some (w:=W3) (p:=⟨blk,off+i',none⟩) (x:=.int .u16 (Gk j')) (q:=⟨blk,off+j',none⟩) (hc3 j' (by omega))
     have hlt3:=scans_lt Sort.ltInt a i j dk (by omega) hi2.out hj2.out hle2
     go_wp2
     go_region
     all_goals go_wp2
     all_goals go_roundw
     case rel =>
      refine⟨i'+1,j' - 1,n+(n2+nq)+1,Sort.swp dk i' j',by go_num,by go_num,by omega,by omega,by omega,by rw [size_swp];exact hs,?_,?_⟩
      ·rw [HW3.o,AW.out,World.drewN_drewN,AG.out i',AG.out j']
       exact swap_worldC (Value.int .u16) w blk off dk _ i' j' (by omega) (by omega)
      rw [←AE.out];exact (partEq_go Sort.ltInt a i j dk hi2.out hj2.out (by omega)).symm
     case measure=>simp [intOf];omega
   go_wp2_with fail
   go_big_quiet (first | (go_at_call 173;refine Calls.quiet_of_same (ay _ _ _)))
   have hj2:Hid (j'=Sort.scanDown (fun x=>Sort.ltInt dk[a]! x) dk i' j):=(scanDown_end (fun x=>Sort.ltInt dk[a]! x) dk i' j' (Or.inl hle2)).symm.trans hsd.out
   clear hcw hsd
   have hw3:wr.drewN nq=W1.drewN (n2+nq):=by rw [HW2.o,World.drewN_drewN]
   generalize wr.drewN nq=W3 at hw3 ⊢
   have hc3:∀t,t < d.size→W3.cell? ⟨blk,off+t,none⟩=some (.int .u16 (Gk t)):=fun t ht=>by rw [hw3];exact hc t ht
   have hf3:∀t,t < d.size→W3.frozen? ⟨blk,off+t,none⟩=false:=fun t ht=>by rw [hw3];exact hf t ht
   have HW3:Hid (W3=W1.drewN (n2+nq)):=hw3;clear hw3
   go_wp2
   go_ret
   have e:=partEq_break Sort.ltInt a i j dk hi2.out hj2.out (by omega)
   refine⟨?_,n+(n2+nq),?_⟩
   ·unfold Sort.partitionEqual;rw [←AE.out,e];rfl
   unfold Sort.partitionEqual;rw [←AE.out,e,HW3.o,AW.out,World.drewN_drewN]
 go_wp2_with fail
 go_big_quiet (first | (go_at_call 173;refine Calls.quiet_of_same (ay _ _ _)))
 go_wp2
 have hi2:Hid (i'=Sort.scanUp (fun x=>!Sort.ltInt dk[a]! x) dk j i):=(scanUp_end (fun x=>!Sort.ltInt dk[a]! x) dk j i' (Or.inl hle)).symm.trans hsc.out
 have hw2:wr.drewN nq=W1.drewN (n1+nq):=by rw [HW1.o,World.drewN_drewN]
 clear hcw HW1 hsc
 go_loopw [10] (fun vj w2=>∃(j' n2:Nat),vj=.int .i64 j'∧j'≤j∧i'≤j'+1∧w2=W1.drewN n2 ∧
   Hid (Sort.scanDown (fun x=>Sort.ltInt dk[a]! x) dk i' j'=Sort.scanDown (fun x=>Sort.ltInt dk[a]! x) dk i' j))
  (fun vj _=>(intOf vj).toNat)
 case atStart=>exact⟨j,n1+nq,rfl,Nat.le_refl _,hij',hw2,rfl⟩
 case round =>
 clear hw2
 obtain⟨j',n2,rfl,hjj,hij2,hw2,hsd⟩:=hrel
 have hcw:∀t,t < d.size→wr.cell? ⟨blk,off+t,none⟩=some (.int .u16 (Gk t)):=fun t ht=>by rw [hw2];exact hc t ht
 have HW2:Hid (wr=W1.drewN n2):=hw2;clear hw2
 by_cases hle2:i'≤j'
 ·exfalso;omega
 go_wp2_with fail
 go_big_quiet (first | (go_at_call 173;refine Calls.quiet_of_same (ay _ _ _)))
 have hj2:Hid (j'=Sort.scanDown (fun x=>Sort.ltInt dk[a]! x) dk i' j):=(scanDown_end (fun x=>Sort.ltInt dk[a]! x) dk i' j' (Or.inl hle2)).symm.trans hsd.out
 clear hcw hsd
 have hw3:wr.drewN nq=W1.drewN (n2+nq):=by rw [HW2.o,World.drewN_drewN]
 generalize wr.drewN nq=W3 at hw3 ⊢
 have hc3:∀t,t < d.size→W3.cell? ⟨blk,off+t,none⟩=some (.int .u16 (Gk t)):=fun t ht=>by rw [hw3];exact hc t ht
 have hf3:∀t,t < d.size→W3.frozen? ⟨blk,off+t,none⟩=false:=fun t ht=>by rw [hw3];exact hf t ht
 have HW3:Hid (W3=W1.drewN (n2+nq)):=hw3;clear hw3
 go_wp2
 go_ret
 have e:=partEq_break Sort.ltInt a i j dk hi2.out hj2.out (by omega)
 refine⟨?_,n+(n2+nq),?_⟩
 ·unfold Sort.partitionEqual;rw [←AE.out,e];rfl
 unfold Sort.partitionEqual;rw [←AE.out,e,HW3.o,AW.out,World.drewN_drewN]
theorem kE (blk off cap a b pivot:Nat) (d:Array Int) (w:World) (hH:Holds (Value.int .u16) w blk off d) (hap:a≤pivot) (hpb:pivot < b) (hb:b≤d.size) (hsz:d.size < 4611686018427387904) :
  Calls Tryz.prog 174 #[.slice (some ⟨blk,off,none⟩) d.size cap,.int .i64 a,.int .i64 b,.int .i64 pivot] w fun e w' =>
   e=.returned (.int .i64 (Sort.partitionEqual Sort.ltInt d a b pivot).1)∧∃n,w'=putRow (Value.int .u16) (Sort.ahead w n) blk off (Sort.partitionEqual Sort.ltInt d a b pivot).2 :=
 (ou blk off cap a b pivot d w hH hap hpb hb hsz).mono fun _ _ ⟨he,n,hw⟩=>⟨he,n,hw⟩
theorem Hid.mk' {p:Prop} (h:p):Hid p:=h
section
variable {α:Type} [Inhabited α] (lt:α→α→Bool)
theorem part_break (a i j:Nat) (dk:Array α) {i2 j2:Nat} (hi2:i2=scanUp (fun x=>lt x dk[a]!) dk j i) (hj2:j2=scanDown (fun x=>!lt x dk[a]!) dk i2 j) (h:j2 < i2):partLoop lt a i j dk=(j2,dk):=by
 subst hi2;subst hj2
 rw [partLoop_eq,if_pos h]
theorem part_go (a i j:Nat) (dk:Array α) {i2 j2:Nat} (hi2:i2=scanUp (fun x=>lt x dk[a]!) dk j i) (hj2:j2=scanDown (fun x=>!lt x dk[a]!) dk i2 j) (h:¬i2 > j2):partLoop lt a i j dk=partLoop lt a (i2+1) (j2 - 1) (swp dk i2 j2):=by
 subst hi2;subst hj2
 rw [partLoop_eq,if_neg h]
theorem part_scans_lt (a i j:Nat) (dk:Array α) (h0:0 < i) {i2 j2:Nat} (hi2:i2=scanUp (fun x=>lt x dk[a]!) dk j i) (hj2:j2=scanDown (fun x=>!lt x dk[a]!) dk i2 j) (h:i2≤j2):i2 < j2:=by
 subst hi2;subst hj2
 obtain⟨u1,_,_,u4⟩:=scanUp_spec (fun x=>lt x dk[a]!) dk j _ i rfl
 obtain⟨v1,_,_,v4⟩:=scanDown_spec (fun x=>!lt x dk[a]!) dk (scanUp (fun x=>lt x dk[a]!) dk j i) j
 rcases Nat.lt_or_ge (scanUp (fun x=>lt x dk[a]!) dk j i) (scanDown (fun x=>!lt x dk[a]!) dk (scanUp (fun x=>lt x dk[a]!) dk j i) j) with h' | h'
 ·exact h'
 have e:scanDown (fun x=>!lt x dk[a]!) dk (scanUp (fun x=>lt x dk[a]!) dk j i) j=scanUp (fun x=>lt x dk[a]!) dk j i:=by omega
 have f1:=u4 (by omega)
 have f2:=v4 h (by omega)
 rw [e] at f2;simp only [f1] at f2
 cases f2
theorem part_first_break (d:Array α) (a b pivot:Nat) {i j:Nat} {dk:Array α} {i2 j2:Nat} (hi:i=a+1) (hj:j=b - 1) (hdk:dk=swp d a pivot) (hi2:i2=scanUp (fun x=>lt x dk[a]!) dk j i) (hj2:j2=scanDown (fun x=>!lt x dk[a]!) dk i2 j) (h:j2 < i2) :
  partition lt d a b pivot=(j2,true,swp dk j2 a):=by
 subst hi;subst hj;subst hdk;subst hi2;subst hj2
 unfold partition;simp only [];rw [if_pos h]
theorem part_first_go (d:Array α) (a b pivot:Nat) {i j:Nat} {dk:Array α} {i2 j2:Nat} (hi:i=a+1) (hj:j=b - 1) (hdk:dk=swp d a pivot) (hi2:i2=scanUp (fun x=>lt x dk[a]!) dk j i) (hj2:j2=scanDown (fun x=>!lt x dk[a]!) dk i2 j) (h:¬i2 > j2) :
  partition lt d a b pivot=((partLoop lt a (i2+1) (j2 - 1) (swp dk i2 j2)).1,false,swp (partLoop lt a (i2+1) (j2 - 1) (swp dk i2 j2)).2 (partLoop lt a (i2+1) (j2 - 1) (swp dk i2 j2)).1 a):=by
 subst hi;subst hj;subst hdk;subst hi2;subst hj2
 unfold partition;simp only [];rw [if_neg h]
end
theorem uQ (blk off cap a b pivot:Nat) (d:Array Int) (w:World) (hH:Holds (Value.int .u16) w blk off d) (hap:a≤pivot) (hpb:pivot < b) (hb:b≤d.size) (hsz:d.size < 4611686018427387904) :
  Calls Tryz.prog 175 #[.slice (some ⟨blk,off,none⟩) d.size cap,.int .i64 a,.int .i64 b,.int .i64 pivot] w fun e w' =>
   e=.returned (.tuple #[.int .i64 (Sort.partition Sort.ltInt d a b pivot).1,.bool (Sort.partition Sort.ltInt d a b pivot).2.1])∧∃n,w'=(putRow (Value.int .u16) w blk off (Sort.partition Sort.ltInt d a b pivot).2.2).drewN n:=by
 have hla:a < d.size:=by omega
 have hlp:pivot < d.size:=by omega
 obtain⟨G,hG⟩:∃G:Nat→Int,∀j,G j=d[j]!:=⟨fun j=>d[j]!,fun _=>rfl⟩
 have ca:w.cell? ⟨blk,off+a,none⟩=some (.int .u16 (G a)):=by rw [hG];exact (hH a hla).1
 have fa:=(hH a hla).2
 have cp:w.cell? ⟨blk,off+pivot,none⟩=some (.int .u16 (G pivot)):=by rw [hG];exact (hH pivot hlp).1
 have fp:=(hH pivot hlp).2
 obtain⟨v',hy'⟩:=cell?_setCell_some (w:=w) (p:=⟨blk,off+a,none⟩) (x:=.int .u16 (G pivot)) (q:=⟨blk,off+pivot,none⟩) cp
 have hw:((w.setCell ⟨blk,off+a,none⟩ (.int .u16 (G pivot))).setCell ⟨blk,off+pivot,none⟩ (.int .u16 (G a))).drew=(putRow (Value.int .u16) w blk off (Sort.swp d a pivot)).drewN 1:=by
  have e:=swap_worldC (Value.int .u16) w blk off d 0 a pivot hla hlp
  rw [putRow_self _ w blk off d hH] at e;rw [hG a,hG pivot]
  exact e
 have AH:Hid (Holds (Value.int .u16) w blk off d):=hH;have HW0:=Hid.mk' hw;clear hG hH hw
 go_enter Tryz.func175,Tryz.ntmps175
 go_wp2
 go_region
 go_wp2
 clear ca fa cp fp hy' v';have hw:=HW0.o;clear HW0
 generalize ((w.setCell ⟨blk,off+a,none⟩ (.int .u16 (G pivot))).setCell ⟨blk,off+pivot,none⟩ (.int .u16 (G a))).drew=W1 at hw ⊢
 obtain⟨dk,hdk⟩:∃dk,dk=Sort.swp d a pivot:=⟨_,rfl⟩;obtain⟨n,hn⟩:∃n:Nat,n=1:=⟨_,rfl⟩;rw [←hdk,←hn] at hw;clear hn
 have hs:dk.size=d.size:=by rw [hdk,size_swp]
 have e1:((a:Int)+1)=((a+1:Nat):Int):=by omega
 have e2:((b:Int) - 1)=((b - 1:Nat):Int):=by omega
 rw [e1,e2];clear e1 e2;obtain⟨i,hi⟩:∃i,i=a+1:=⟨_,rfl⟩;obtain⟨j,hj⟩:∃j,j=b - 1:=⟨_,rfl⟩;rw [←hi,←hj]
 have hai:a < i:=by omega
 have hij:i≤j+1:=by omega
 have hjb:j < b:=by omega
 have HI:=Hid.mk' hi;have HJ:=Hid.mk' hj;have HDK:=Hid.mk' hdk;clear hi hj hdk
 have hHk:Holds (Value.int .u16) W1 blk off dk:=by
  rw [hw]
  exact holds_putRow (Value.int .u16) w blk off d dk AH.out hs
 obtain⟨Gk,hG⟩:∃Gk:Nat→Int,∀t,Gk t=dk[t]!:=⟨fun t=>dk[t]!,fun _=>rfl⟩
 have hc:∀t,t < d.size→W1.cell? ⟨blk,off+t,none⟩=some (.int .u16 (Gk t)):=fun t ht=>by rw [hG];exact (hHk t (by omega)).1
 have hf:∀t,t < d.size→W1.frozen? ⟨blk,off+t,none⟩=false:=fun t ht=>(hHk t (by omega)).2
 have AG:Hid (∀t,Gk t=dk[t]!):=hG;have AW:Hid (W1=(putRow (Value.int .u16) w blk off dk).drewN n):=hw;clear hG hw hHk
 go_loopw [10] (fun vi w1=>∃(i' n1:Nat),vi=.int .i64 i'∧i≤i'∧i'≤j+1∧w1=W1.drewN n1 ∧
   Hid (Sort.scanUp (fun x=>Sort.ltInt x dk[a]!) dk j i'=Sort.scanUp (fun x=>Sort.ltInt x dk[a]!) dk j i))
  (fun vi _=>j+1 - (intOf vi).toNat)
 case atStart=>exact⟨i,0,rfl,Nat.le_refl _,hij,rfl,rfl⟩
 case round =>
 obtain⟨i',n1,rfl,hii,hij',hw1,hsc⟩:=hrel
 have hcw:∀t,t < d.size→wr.cell? ⟨blk,off+t,none⟩=some (.int .u16 (Gk t)):=fun t ht=>by rw [hw1];exact hc t ht
 have HW1:Hid (wr=W1.drewN n1):=hw1;clear hw1
 by_cases hle:i'≤j
 ·go_wp2_with fail
  go_big_quiet (first | (go_at_call 173;refine Calls.quiet_of_same (ay _ _ _)))
  go_wp2
  ·
   have ht:Sort.ltInt (Gk i') (Gk a)=true:=by assumption
   go_roundw
   case rel=>exact⟨i'+1,n1+nq,by go_num,by omega,by omega,by rw [HW1.o,World.drewN_drewN],(scanUp_go (fun x=>Sort.ltInt x dk[a]!) dk j i' hle (by rw [←AG.out a,←AG.out i'];exact ht)).symm.trans hsc.out⟩
   case measure=>simp [intOf];omega
  ·
   have ht:Sort.ltInt (Gk i') (Gk a)=false:=by assumption
   have hi2:Hid (i'=Sort.scanUp (fun x=>Sort.ltInt x dk[a]!) dk j i):=(scanUp_end (fun x=>Sort.ltInt x dk[a]!) dk j i' (Or.inr (by rw [←AG.out a,←AG.out i'];exact ht))).symm.trans hsc.out
   clear ht
   have hw2:wr.drewN nq=W1.drewN (n1+nq):=by rw [HW1.o,World.drewN_drewN]
   clear hcw HW1 hsc
   go_loopw [11] (fun vj w2=>∃(j' n2:Nat),vj=.int .i64 j'∧j'≤j∧i'≤j'+1∧w2=W1.drewN n2 ∧
     Hid (Sort.scanDown (fun x=>!Sort.ltInt x dk[a]!) dk i' j'=Sort.scanDown (fun x=>!Sort.ltInt x dk[a]!) dk i' j))
    (fun vj _=>(intOf vj).toNat)
   case atStart=>exact⟨j,n1+nq,rfl,Nat.le_refl _,hij',hw2,rfl⟩
   case round =>
   clear hw2
   obtain⟨j',n2,rfl,hjj,hij2,hw2,hsd⟩:=hrel
   have hcw:∀t,t < d.size→wr.cell? ⟨blk,off+t,none⟩=some (.int .u16 (Gk t)):=fun t ht=>by rw [hw2];exact hc t ht
   have HW2:Hid (wr=W1.drewN n2):=hw2;clear hw2
   by_cases hle2:i'≤j'
   ·go_wp2_with fail
    go_big_quiet (first | (go_at_call 173;refine Calls.quiet_of_same (ay _ _ _)))
    go_wp2
    ·
     have ht:(!Sort.ltInt (Gk j') (Gk a))=true:=by assumption
     go_roundw
     case rel=>exact⟨j' - 1,n2+nq,by go_num,by omega,by omega,by rw [HW2.o,World.drewN_drewN],(scanDown_go (fun x=>!Sort.ltInt x dk[a]!) dk i' j' hle2 (by omega) (by rw [←AG.out a,←AG.out j'];exact ht)).symm.trans hsd.out⟩
     case measure=>simp [intOf];omega
    ·
     have ht:(!Sort.ltInt (Gk j') (Gk a))=false:=by assumption
     have hj2:Hid (j'=Sort.scanDown (fun x=>!Sort.ltInt x dk[a]!) dk i' j):=(scanDown_end (fun x=>!Sort.ltInt x dk[a]!) dk i' j' (Or.inr (by rw [←AG.out a,←AG.out j'];exact ht))).symm.trans hsd.out
     clear hcw hsd ht
     have hw3:wr.drewN nq=W1.drewN (n2+nq):=by rw [HW2.o,World.drewN_drewN]
     generalize wr.drewN nq=W3 at hw3 ⊢
     have hc3:∀t,t < d.size→W3.cell? ⟨blk,off+t,none⟩=some (.int .u16 (Gk t)):=fun t ht=>by rw [hw3];exact hc t ht
     have hf3:∀t,t < d.size→W3.frozen? ⟨blk,off+t,none⟩=false:=fun t ht=>by rw [hw3];exact hf t ht
     have HW3:Hid (W3=W1.drewN (n2+nq)):=hw3;clear hw3
     obtain⟨v3,hy3⟩:=cell?_setCell_some (w:=W3) (p:=⟨blk,off+i',none⟩) (x:=.int .u16 (Gk j')) (q:=⟨blk,off+j',none⟩) (hc3 j' (by omega))
     have hlt3:=part_scans_lt Sort.ltInt a i j dk (by omega) hi2.out hj2.out hle2
     go_wp2
     go_region
     all_goals go_wp2
     obtain⟨R,hR⟩:∃R,R=Sort.partLoop Sort.ltInt a (i'+1) (j' - 1) (Sort.swp dk i' j'):=⟨_,rfl⟩
     have HP:Hid (Sort.partition Sort.ltInt d a b pivot=(R.1,false,Sort.swp R.2 R.1 a)):=by rw [hR];exact part_first_go Sort.ltInt d a b pivot HI.o HJ.o HDK.o hi2.out hj2.out (by omega)
     have hw0:((W3.setCell ⟨blk,off+i',none⟩ (.int .u16 (Gk j'))).setCell ⟨blk,off+j',none⟩ (.int .u16 (Gk i'))).drew=(putRow (Value.int .u16) w blk off (Sort.swp dk i' j')).drewN (n+(n2+nq)+1):=by
      rw [HW3.o,AW.out,World.drewN_drewN,AG.out i',AG.out j']
      exact swap_worldC (Value.int .u16) w blk off dk _ i' j' (by omega) (by omega)
     have HR:Hid (R=Sort.partLoop Sort.ltInt a (i'+1) (j' - 1) (Sort.swp dk i' j')):=hR;clear hR hc hf hc3 hf3 hy3 HW3 AW AG hi2 hj2
     go_loopw [10,11] (fun vi vj wr=>∃(i j n:Nat) (dk:Array Int),vi=.int .i64 i∧vj=.int .i64 j∧a < i∧i≤j+1∧j < b∧dk.size=d.size∧wr=(putRow (Value.int .u16) w blk off dk).drewN n ∧
       Sort.partLoop Sort.ltInt a i j dk=R)
      (fun vi vj _=>(intOf vj).toNat+1 - (intOf vi).toNat)
     case atStart=>exact⟨i'+1,j' - 1,_,Sort.swp dk i' j',by go_num,by go_num,by omega,by omega,by omega,by rw [size_swp];exact hs,hw0,HR.o.symm⟩
     case round =>
     clear hw0 HR
     obtain⟨i,j,n,dk,rfl,rfl,hai,hij,hjb,hs,hw,heq⟩:=hrel
     rename World=>W1
     have AE:Hid (Sort.partLoop Sort.ltInt a i j dk=R):=heq;clear heq
     have hHk:Holds (Value.int .u16) W1 blk off dk:=by
      rw [hw]
      exact holds_putRow (Value.int .u16) w blk off d dk AH.out hs
     obtain⟨Gk,hG⟩:∃Gk:Nat→Int,∀t,Gk t=dk[t]!:=⟨fun t=>dk[t]!,fun _=>rfl⟩
     have hc:∀t,t < d.size→W1.cell? ⟨blk,off+t,none⟩=some (.int .u16 (Gk t)):=fun t ht=>by rw [hG];exact (hHk t (by omega)).1
     have hf:∀t,t < d.size→W1.frozen? ⟨blk,off+t,none⟩=false:=fun t ht=>(hHk t (by omega)).2
     have AG:Hid (∀t,Gk t=dk[t]!):=hG;have AW:Hid (W1=(putRow (Value.int .u16) w blk off dk).drewN n):=hw;clear hG hw hHk
     go_wp2
     go_loopw [10] (fun vi w1=>∃(i' n1:Nat),vi=.int .i64 i'∧i≤i'∧i'≤j+1∧w1=W1.drewN n1 ∧
       Hid (Sort.scanUp (fun x=>Sort.ltInt x dk[a]!) dk j i'=Sort.scanUp (fun x=>Sort.ltInt x dk[a]!) dk j i))
      (fun vi _=>j+1 - (intOf vi).toNat)
     case atStart=>exact⟨i,0,rfl,Nat.le_refl _,hij,rfl,rfl⟩
     case round =>
     obtain⟨i',n1,rfl,hii,hij',hw1,hsc⟩:=hrel
     have hcw:∀t,t < d.size→wr.cell? ⟨blk,off+t,none⟩=some (.int .u16 (Gk t)):=fun t ht=>by rw [hw1];exact hc t ht
     have HW1:Hid (wr=W1.drewN n1):=hw1;clear hw1
     by_cases hle:i'≤j
     ·go_wp2_with fail
      go_big_quiet (first | (go_at_call 173;refine Calls.quiet_of_same (ay _ _ _)))
      go_wp2
      ·
       have ht:Sort.ltInt (Gk i') (Gk a)=true:=by assumption
       go_roundw
       case rel=>exact⟨i'+1,n1+nq,by go_num,by omega,by omega,by rw [HW1.o,World.drewN_drewN],(scanUp_go (fun x=>Sort.ltInt x dk[a]!) dk j i' hle (by rw [←AG.out a,←AG.out i'];exact ht)).symm.trans hsc.out⟩
       case measure=>simp [intOf];omega
      ·
       have ht:Sort.ltInt (Gk i') (Gk a)=false:=by assumption
       have hi2:Hid (i'=Sort.scanUp (fun x=>Sort.ltInt x dk[a]!) dk j i):=(scanUp_end (fun x=>Sort.ltInt x dk[a]!) dk j i' (Or.inr (by rw [←AG.out a,←AG.out i'];exact ht))).symm.trans hsc.out
       clear ht
       have hw2:wr.drewN nq=W1.drewN (n1+nq):=by rw [HW1.o,World.drewN_drewN]
       clear hcw HW1 hsc
       go_loopw [11] (fun vj w2=>∃(j' n2:Nat),vj=.int .i64 j'∧j'≤j∧i'≤j'+1∧w2=W1.drewN n2 ∧
         Hid (Sort.scanDown (fun x=>!Sort.ltInt x dk[a]!) dk i' j'=Sort.scanDown (fun x=>!Sort.ltInt x dk[a]!) dk i' j))
        (fun vj _=>(intOf vj).toNat)
       case atStart=>exact⟨j,n1+nq,rfl,Nat.le_refl _,hij',hw2,rfl⟩
       case round =>
       clear hw2
       obtain⟨j',n2,rfl,hjj,hij2,hw2,hsd⟩:=hrel
       have hcw:∀t,t < d.size→wr.cell? ⟨blk,off+t,none⟩=some (.int .u16 (Gk t)):=fun t ht=>by rw [hw2];exact hc t ht
       have HW2:Hid (wr=W1.drewN n2):=hw2;clear hw2
       by_cases hle2:i'≤j'
       ·go_wp2_with fail
        go_big_quiet (first | (go_at_call 173;refine Calls.quiet_of_same (ay _ _ _)))
        go_wp2
        ·
         have ht:(!Sort.ltInt (Gk j') (Gk a))=true:=by assumption
         go_roundw
         case rel=>exact⟨j' - 1,n2+nq,by go_num,by omega,by omega,by rw [HW2.o,World.drewN_drewN],(scanDown_go (fun x=>!Sort.ltInt x dk[a]!) dk i' j' hle2 (by omega) (by rw [←AG.out a,←AG.out j'];exact ht)).symm.trans hsd.out⟩
         case measure=>simp [intOf];omega
        ·
         have ht:(!Sort.ltInt (Gk j') (Gk a))=false:=by assumption
         have hj2:Hid (j'=Sort.scanDown (fun x=>!Sort.ltInt x dk[a]!) dk i' j):=(scanDown_end (fun x=>!Sort.ltInt x dk[a]!) dk i' j' (Or.inr (by rw [←AG.out a,←AG.out j'];exact ht))).symm.trans hsd.out
         clear hcw hsd ht
         have hw3:wr.drewN nq=W1.drewN (n2+nq):=by rw [HW2.o,World.drewN_drewN]
         generalize wr.drewN nq=W3 at hw3 ⊢
         have hc3:∀t,t < d.size→W3.cell? ⟨blk,off+t,none⟩=some (.int .u16 (Gk t)):=fun t ht=>by rw [hw3];exact hc t ht
         have hf3:∀t,t < d.size→W3.frozen? ⟨blk,off+t,none⟩=false:=fun t ht=>by rw [hw3];exact hf t ht
         have HW3:Hid (W3=W1.drewN (n2+nq)):=hw3;clear hw3
         obtain⟨v3,hy3⟩:=cell?_setCell_some (w:=W3) (p:=⟨blk,off+i',none⟩) (x:=.int .u16 (Gk j')) (q:=⟨blk,off+j',none⟩) (hc3 j' (by omega))
         have hlt3:=part_scans_lt Sort.ltInt a i j dk (by omega) hi2.out hj2.out hle2
         go_wp2
         go_region
         all_goals go_wp2
         all_goals go_roundw
         case rel =>
          refine⟨i'+1,j' - 1,n+(n2+nq)+1,Sort.swp dk i' j',by go_num,by go_num,by omega,by omega,by omega,by rw [size_swp];exact hs,?_,?_⟩
          ·rw [HW3.o,AW.out,World.drewN_drewN,AG.out i',AG.out j']
           exact swap_worldC (Value.int .u16) w blk off dk _ i' j' (by omega) (by omega)
          exact (part_go Sort.ltInt a i j dk hi2.out hj2.out (by omega)).symm.trans AE.out
         case measure=>simp [intOf];omega
       go_wp2_with fail
       go_big_quiet (first | (go_at_call 173;refine Calls.quiet_of_same (ay _ _ _)))
       have hj2:Hid (j'=Sort.scanDown (fun x=>!Sort.ltInt x dk[a]!) dk i' j):=(scanDown_end (fun x=>!Sort.ltInt x dk[a]!) dk i' j' (Or.inl hle2)).symm.trans hsd.out
       clear hcw hsd
       have hw3:wr.drewN nq=W1.drewN (n2+nq):=by rw [HW2.o,World.drewN_drewN]
       generalize wr.drewN nq=W3 at hw3 ⊢
       have hc3:∀t,t < d.size→W3.cell? ⟨blk,off+t,none⟩=some (.int .u16 (Gk t)):=fun t ht=>by rw [hw3];exact hc t ht
       have hf3:∀t,t < d.size→W3.frozen? ⟨blk,off+t,none⟩=false:=fun t ht=>by rw [hw3];exact hf t ht
       have HW3:Hid (W3=W1.drewN (n2+nq)):=hw3;clear hw3
       obtain⟨v3,hy3⟩:=cell?_setCell_some (w:=W3) (p:=⟨blk,off+j',none⟩) (x:=.int .u16 (Gk a)) (q:=⟨blk,off+a,none⟩) (hc3 a (by omega))
       have hlj:j' < d.size:=by omega
       go_wp2
       go_region
       all_goals go_wp2
       all_goals go_ret2
       have e:Sort.partition Sort.ltInt d a b pivot=(j',false,Sort.swp dk j' a):=by
        have e0:=(part_break Sort.ltInt a i j dk hi2.out hj2.out (by omega)).symm.trans AE.out
        rw [HP.o,←e0]
       refine⟨?_,n+(n2+nq)+1,?_⟩
       ·rw [e];rfl
       rw [e,HW3.o,AW.out,World.drewN_drewN,AG.out a,AG.out j']
       exact swap_worldC (Value.int .u16) w blk off dk _ j' a (by omega) (by omega)
     go_wp2_with fail
     go_big_quiet (first | (go_at_call 173;refine Calls.quiet_of_same (ay _ _ _)))
     go_wp2
     have hi2:Hid (i'=Sort.scanUp (fun x=>Sort.ltInt x dk[a]!) dk j i):=(scanUp_end (fun x=>Sort.ltInt x dk[a]!) dk j i' (Or.inl hle)).symm.trans hsc.out
     have hw2:wr.drewN nq=W1.drewN (n1+nq):=by rw [HW1.o,World.drewN_drewN]
     clear hcw HW1 hsc
     go_loopw [11] (fun vj w2=>∃(j' n2:Nat),vj=.int .i64 j'∧j'≤j∧i'≤j'+1∧w2=W1.drewN n2 ∧
       Hid (Sort.scanDown (fun x=>!Sort.ltInt x dk[a]!) dk i' j'=Sort.scanDown (fun x=>!Sort.ltInt x dk[a]!) dk i' j))
      (fun vj _=>(intOf vj).toNat)
     case atStart=>exact⟨j,n1+nq,rfl,Nat.le_refl _,hij',hw2,rfl⟩
     case round =>
     clear hw2
     obtain⟨j',n2,rfl,hjj,hij2,hw2,hsd⟩:=hrel
     have hcw:∀t,t < d.size→wr.cell? ⟨blk,off+t,none⟩=some (.int .u16 (Gk t)):=fun t ht=>by rw [hw2];exact hc t ht
     have HW2:Hid (wr=W1.drewN n2):=hw2;clear hw2
     by_cases hle2:i'≤j'
     ·exfalso;omega
     go_wp2_with fail
     go_big_quiet (first | (go_at_call 173;refine Calls.quiet_of_same (ay _ _ _)))
     have hj2:Hid (j'=Sort.scanDown (fun x=>!Sort.ltInt x dk[a]!) dk i' j):=(scanDown_end (fun x=>!Sort.ltInt x dk[a]!) dk i' j' (Or.inl hle2)).symm.trans hsd.out
     clear hcw hsd
     have hw3:wr.drewN nq=W1.drewN (n2+nq):=by rw [HW2.o,World.drewN_drewN]
     generalize wr.drewN nq=W3 at hw3 ⊢
     have hc3:∀t,t < d.size→W3.cell? ⟨blk,off+t,none⟩=some (.int .u16 (Gk t)):=fun t ht=>by rw [hw3];exact hc t ht
     have hf3:∀t,t < d.size→W3.frozen? ⟨blk,off+t,none⟩=false:=fun t ht=>by rw [hw3];exact hf t ht
     have HW3:Hid (W3=W1.drewN (n2+nq)):=hw3;clear hw3
     obtain⟨v3,hy3⟩:=cell?_setCell_some (w:=W3) (p:=⟨blk,off+j',none⟩) (x:=.int .u16 (Gk a)) (q:=⟨blk,off+a,none⟩) (hc3 a (by omega))
     have hlj:j' < d.size:=by omega
     go_wp2
     go_region
     all_goals go_wp2
     all_goals go_ret2
     have e:Sort.partition Sort.ltInt d a b pivot=(j',false,Sort.swp dk j' a):=by
      have e0:=(part_break Sort.ltInt a i j dk hi2.out hj2.out (by omega)).symm.trans AE.out
      rw [HP.o,←e0]
     refine⟨?_,n+(n2+nq)+1,?_⟩
     ·rw [e];rfl
     rw [e,HW3.o,AW.out,World.drewN_drewN,AG.out a,AG.out j']
     exact swap_worldC (Value.int .u16) w blk off dk _ j' a (by omega) (by omega)
   go_wp2_with fail
   go_big_quiet (first | (go_at_call 173;refine Calls.quiet_of_same (ay _ _ _)))
   have hj2:Hid (j'=Sort.scanDown (fun x=>!Sort.ltInt x dk[a]!) dk i' j):=(scanDown_end (fun x=>!Sort.ltInt x dk[a]!) dk i' j' (Or.inl hle2)).symm.trans hsd.out
   clear hcw hsd
   have hw3:wr.drewN nq=W1.drewN (n2+nq):=by rw [HW2.o,World.drewN_drewN]
   generalize wr.drewN nq=W3 at hw3 ⊢
   have hc3:∀t,t < d.size→W3.cell? ⟨blk,off+t,none⟩=some (.int .u16 (Gk t)):=fun t ht=>by rw [hw3];exact hc t ht
   have hf3:∀t,t < d.size→W3.frozen? ⟨blk,off+t,none⟩=false:=fun t ht=>by rw [hw3];exact hf t ht
   have HW3:Hid (W3=W1.drewN (n2+nq)):=hw3;clear hw3
   obtain⟨v3,hy3⟩:=cell?_setCell_some (w:=W3) (p:=⟨blk,off+j',none⟩) (x:=.int .u16 (Gk a)) (q:=⟨blk,off+a,none⟩) (hc3 a (by omega))
   have hlj:j' < d.size:=by omega
   go_wp2
   go_region
   all_goals go_wp2
   all_goals go_ret2
   have e:Sort.partition Sort.ltInt d a b pivot=(j',true,Sort.swp dk j' a):=part_first_break Sort.ltInt d a b pivot HI.o HJ.o HDK.o hi2.out hj2.out (by omega)
   refine⟨?_,n+(n2+nq)+1,?_⟩
   ·rw [e];rfl
   rw [e,HW3.o,AW.out,World.drewN_drewN,AG.out a,AG.out j']
   exact swap_worldC (Value.int .u16) w blk off dk _ j' a (by omega) (by omega)
 go_wp2_with fail
 go_big_quiet (first | (go_at_call 173;refine Calls.quiet_of_same (ay _ _ _)))
 go_wp2
 have hi2:Hid (i'=Sort.scanUp (fun x=>Sort.ltInt x dk[a]!) dk j i):=(scanUp_end (fun x=>Sort.ltInt x dk[a]!) dk j i' (Or.inl hle)).symm.trans hsc.out
 have hw2:wr.drewN nq=W1.drewN (n1+nq):=by rw [HW1.o,World.drewN_drewN]
 clear hcw HW1 hsc
 go_loopw [11] (fun vj w2=>∃(j' n2:Nat),vj=.int .i64 j'∧j'≤j∧i'≤j'+1∧w2=W1.drewN n2 ∧
   Hid (Sort.scanDown (fun x=>!Sort.ltInt x dk[a]!) dk i' j'=Sort.scanDown (fun x=>!Sort.ltInt x dk[a]!) dk i' j))
  (fun vj _=>(intOf vj).toNat)
 case atStart=>exact⟨j,n1+nq,rfl,Nat.le_refl _,hij',hw2,rfl⟩
 case round =>
 clear hw2
 obtain⟨j',n2,rfl,hjj,hij2,hw2,hsd⟩:=hrel
 have hcw:∀t,t < d.size→wr.cell? ⟨blk,off+t,none⟩=some (.int .u16 (Gk t)):=fun t ht=>by rw [hw2];exact hc t ht
 have HW2:Hid (wr=W1.drewN n2):=hw2;clear hw2
 by_cases hle2:i'≤j'
 ·exfalso;omega
 go_wp2_with fail
 go_big_quiet (first | (go_at_call 173;refine Calls.quiet_of_same (ay _ _ _)))
 have hj2:Hid (j'=Sort.scanDown (fun x=>!Sort.ltInt x dk[a]!) dk i' j):=(scanDown_end (fun x=>!Sort.ltInt x dk[a]!) dk i' j' (Or.inl hle2)).symm.trans hsd.out
 clear hcw hsd
 have hw3:wr.drewN nq=W1.drewN (n2+nq):=by rw [HW2.o,World.drewN_drewN]
 generalize wr.drewN nq=W3 at hw3 ⊢
 have hc3:∀t,t < d.size→W3.cell? ⟨blk,off+t,none⟩=some (.int .u16 (Gk t)):=fun t ht=>by rw [hw3];exact hc t ht
 have hf3:∀t,t < d.size→W3.frozen? ⟨blk,off+t,none⟩=false:=fun t ht=>by rw [hw3];exact hf t ht
 have HW3:Hid (W3=W1.drewN (n2+nq)):=hw3;clear hw3
 obtain⟨v3,hy3⟩:=cell?_setCell_some (w:=W3) (p:=⟨blk,off+j',none⟩) (x:=.int .u16 (Gk a)) (q:=⟨blk,off+a,none⟩) (hc3 a (by omega))
 have hlj:j' < d.size:=by omega
 go_wp2
 go_region
 all_goals go_wp2
 all_goals go_ret2
 have e:Sort.partition Sort.ltInt d a b pivot=(j',true,Sort.swp dk j' a):=part_first_break Sort.ltInt d a b pivot HI.o HJ.o HDK.o hi2.out hj2.out (by omega)
 refine⟨?_,n+(n2+nq)+1,?_⟩
 ·rw [e];rfl
 rw [e,HW3.o,AW.out,World.drewN_drewN,AG.out a,AG.out j']
 exact swap_worldC (Value.int .u16) w blk off dk _ j' a (by omega) (by omega)
theorem m_ (blk off cap a b pivot:Nat) (d:Array Int) (w:World) (hH:Holds (Value.int .u16) w blk off d) (hap:a≤pivot) (hpb:pivot < b) (hb:b≤d.size) (hsz:d.size < 4611686018427387904) :
  Calls Tryz.prog 175 #[.slice (some ⟨blk,off,none⟩) d.size cap,.int .i64 a,.int .i64 b,.int .i64 pivot] w fun e w' =>
   e=.returned (.tuple #[.int .i64 (Sort.partition Sort.ltInt d a b pivot).1,.bool (Sort.partition Sort.ltInt d a b pivot).2.1])∧∃n,w'=putRow (Value.int .u16) (Sort.ahead w n) blk off (Sort.partition Sort.ltInt d a b pivot).2.2 :=
 (uQ blk off cap a b pivot d w hH hap hpb hb hsz).mono fun _ _ ⟨he,n,hw⟩=>⟨he,n,hw⟩
end Go.Proofs.YtfkblpjfknfgbaaGreatDoor
namespace Go.Sort
variable {α:Type} [Inhabited α]
def vV (enc:α→Value) (w:World) (blk off:Nat) (d:Array α) (wr:World):Prop:=∃n os,wr=grow (putRow enc (ahead w n) blk off d) os
section
variable {enc:α→Value} {w wr w1:World} {blk off:Nat} {d d' d0:Array α}
theorem vV.refl (h:Holds enc w blk off d):vV enc w blk off d w:=⟨0,#[],by rw [grow_empty,ahead_zero,putRow_self enc w blk off d h]⟩
theorem vV.holds (h:vV enc w blk off d wr) (h0:Holds enc w blk off d0) (hs:d.size=d0.size) (hb:blk < w.heap.size):Holds enc wr blk off d∧blk < wr.heap.size:=by
 obtain⟨n,os,rfl⟩:=h
 exact⟨holds_grow enc _ os blk off d (by simpa using hb) (holds_putRow enc _ blk off d0 d (holds_ahead enc w n blk off d0 h0) hs),by simp;omega⟩
theorem vV.step (h:vV enc w blk off d wr) (hb:blk < w.heap.size) (hs:d'.size=d.size) (h1:∃m,w1=putRow enc (ahead wr m) blk off d'):vV enc w blk off d' w1:=by
 obtain⟨n,os,rfl⟩:=h
 obtain⟨m,rfl⟩:=h1
 exact⟨n+m,os,grow_step enc w os n m blk off d d' hb hs⟩
theorem vV.stepG (h:vV enc w blk off d wr) (hb:blk < w.heap.size) (hs:d'.size=d.size) (h1:∃m os',w1=grow (putRow enc (ahead wr m) blk off d') os'):vV enc w blk off d' w1:=by
 obtain⟨n,os,rfl⟩:=h
 obtain⟨m,os',rfl⟩:=h1
 exact⟨n+m,os++os',grow_step_grow enc w os os' n m blk off d d' hb hs⟩
theorem vV.same (h:vV enc w blk off d wr) (h0:Holds enc w blk off d0) (hs:d.size=d0.size) (hb:blk < w.heap.size) (h1:∃m os',w1=grow (ahead wr m) os'):vV enc w blk off d w1:=by
 obtain⟨m,os',rfl⟩:=h1
 refine h.stepG hb rfl ⟨m,os',?_⟩
 rw [putRow_self enc (ahead wr m) blk off d (holds_ahead enc wr m blk off d (h.holds h0 hs hb).1)]
theorem vV.ahead (h:vV enc w blk off d wr) (m:Nat):vV enc w blk off d (ahead wr m):=by
 obtain⟨n,os,rfl⟩:=h
 exact⟨n+m,os,by rw [←ahead_ahead];rfl⟩
end
section
variable (lt:α→α→Bool)
structure RdU (α:Type) where
 d1:Array α
 lim:Nat
 c:Nat×Hint
 d2:Array α
 pivot:Nat
 hint:Hint
 pi:Array α×Bool
def aR (d:Array α) (a b limit:Nat) (wb wp:Bool):RdU α :=
 let d1:=if !wb then breakPatterns d a b else d
 let c:=choosePivot lt d1 a b
 let d2:=if c.2=.decreasing then reverseRange d1 a b else d1
 let hint:=if c.2=.decreasing then Hint.increasing else c.2
 { d1:=d1,lim:=if !wb then limit - 1 else limit,c:=c,d2:=d2,pivot:=if c.2=.decreasing then (b - 1) - (c.1 - a) else c.1,hint:=hint,
   pi:=if wb&&wp&&hint=.increasing then partialInsertionSort lt d2 a b else (d2,false) }
variable {lt} {d:Array α} {a b limit:Nat} {wb wp:Bool}
theorem iQ:pdq lt d a b limit wb wp =
  if b - a≤12 then insertionSort lt d a b else
  if limit=0 then heapSort lt d a b else
  if (aR lt d a b limit wb wp).pi.2=true then (aR lt d a b limit wb wp).pi.1 else
  if (decide (a > 0)&&!lt (aR lt d a b limit wb wp).pi.1[a - 1]! (aR lt d a b limit wb wp).pi.1[(aR lt d a b limit wb wp).pivot]!)=true then
   (if a < (partitionEqual lt (aR lt d a b limit wb wp).pi.1 a b (aR lt d a b limit wb wp).pivot).1∧(partitionEqual lt (aR lt d a b limit wb wp).pi.1 a b (aR lt d a b limit wb wp).pivot).1≤b then pdq lt (partitionEqual lt (aR lt d a b limit wb wp).pi.1 a b (aR lt d a b limit wb wp).pivot).2 (partitionEqual lt (aR lt d a b limit wb wp).pi.1 a b (aR lt d a b limit wb wp).pivot).1 b (aR lt d a b limit wb wp).lim wb wp else (partitionEqual lt (aR lt d a b limit wb wp).pi.1 a b (aR lt d a b limit wb wp).pivot).2)
  else
   (if a≤(partition lt (aR lt d a b limit wb wp).pi.1 a b (aR lt d a b limit wb wp).pivot).1∧(partition lt (aR lt d a b limit wb wp).pi.1 a b (aR lt d a b limit wb wp).pivot).1 < b then
    (if (partition lt (aR lt d a b limit wb wp).pi.1 a b (aR lt d a b limit wb wp).pivot).1 - a < b - (partition lt (aR lt d a b limit wb wp).pi.1 a b (aR lt d a b limit wb wp).pivot).1 then
     pdq lt (pdq lt (partition lt (aR lt d a b limit wb wp).pi.1 a b (aR lt d a b limit wb wp).pivot).2.2 a (partition lt (aR lt d a b limit wb wp).pi.1 a b (aR lt d a b limit wb wp).pivot).1 (aR lt d a b limit wb wp).lim true true) ((partition lt (aR lt d a b limit wb wp).pi.1 a b (aR lt d a b limit wb wp).pivot).1+1) b (aR lt d a b limit wb wp).lim (decide ((partition lt (aR lt d a b limit wb wp).pi.1 a b (aR lt d a b limit wb wp).pivot).1 - a≥(b - a) / 8)) (partition lt (aR lt d a b limit wb wp).pi.1 a b (aR lt d a b limit wb wp).pivot).2.1
    else
     pdq lt (pdq lt (partition lt (aR lt d a b limit wb wp).pi.1 a b (aR lt d a b limit wb wp).pivot).2.2 ((partition lt (aR lt d a b limit wb wp).pi.1 a b (aR lt d a b limit wb wp).pivot).1+1) b (aR lt d a b limit wb wp).lim true true) a (partition lt (aR lt d a b limit wb wp).pi.1 a b (aR lt d a b limit wb wp).pivot).1 (aR lt d a b limit wb wp).lim (decide (b - (partition lt (aR lt d a b limit wb wp).pi.1 a b (aR lt d a b limit wb wp).pivot).1≥(b - a) / 8)) (partition lt (aR lt d a b limit wb wp).pi.1 a b (aR lt d a b limit wb wp).pivot).2.1)
   else (partition lt (aR lt d a b limit wb wp).pi.1 a b (aR lt d a b limit wb wp).pivot).2.2):=by
 rw [pdq]
 rfl
theorem GK (h:b - a≤12):pdq lt d a b limit wb wp=insertionSort lt d a b:=by rw [iQ,if_pos h]
theorem Kr (h:¬b - a≤12) (h0:limit=0):pdq lt d a b limit wb wp=heapSort lt d a b:=by rw [iQ,if_neg h,if_pos h0]
theorem Kt (h:¬b - a≤12) (h0:¬limit=0) (h1:(aR lt d a b limit wb wp).pi.2=true):pdq lt d a b limit wb wp=(aR lt d a b limit wb wp).pi.1:=by rw [iQ,if_neg h,if_neg h0,if_pos h1]
theorem Qk (h:¬b - a≤12) (h0:¬limit=0) (h1:(aR lt d a b limit wb wp).pi.2=false) (h2:(decide (a > 0)&&!lt (aR lt d a b limit wb wp).pi.1[a - 1]! (aR lt d a b limit wb wp).pi.1[(aR lt d a b limit wb wp).pivot]!)=true) (h3:a < (partitionEqual lt (aR lt d a b limit wb wp).pi.1 a b (aR lt d a b limit wb wp).pivot).1∧(partitionEqual lt (aR lt d a b limit wb wp).pi.1 a b (aR lt d a b limit wb wp).pivot).1≤b) :
  pdq lt d a b limit wb wp=pdq lt (partitionEqual lt (aR lt d a b limit wb wp).pi.1 a b (aR lt d a b limit wb wp).pivot).2 (partitionEqual lt (aR lt d a b limit wb wp).pi.1 a b (aR lt d a b limit wb wp).pivot).1 b (aR lt d a b limit wb wp).lim wb wp:=by
 rw [iQ,if_neg h,if_neg h0,if_neg (by rw [h1];exact Bool.false_ne_true),if_pos h2,if_pos h3]
theorem Ku (h:¬b - a≤12) (h0:¬limit=0) (h1:(aR lt d a b limit wb wp).pi.2=false) (h2:(decide (a > 0)&&!lt (aR lt d a b limit wb wp).pi.1[a - 1]! (aR lt d a b limit wb wp).pi.1[(aR lt d a b limit wb wp).pivot]!)=false) (h3:a≤(partition lt (aR lt d a b limit wb wp).pi.1 a b (aR lt d a b limit wb wp).pivot).1∧(partition lt (aR lt d a b limit wb wp).pi.1 a b (aR lt d a b limit wb wp).pivot).1 < b) (h4:(partition lt (aR lt d a b limit wb wp).pi.1 a b (aR lt d a b limit wb wp).pivot).1 - a < b - (partition lt (aR lt d a b limit wb wp).pi.1 a b (aR lt d a b limit wb wp).pivot).1) :
  pdq lt d a b limit wb wp=pdq lt (pdq lt (partition lt (aR lt d a b limit wb wp).pi.1 a b (aR lt d a b limit wb wp).pivot).2.2 a (partition lt (aR lt d a b limit wb wp).pi.1 a b (aR lt d a b limit wb wp).pivot).1 (aR lt d a b limit wb wp).lim true true) ((partition lt (aR lt d a b limit wb wp).pi.1 a b (aR lt d a b limit wb wp).pivot).1+1) b (aR lt d a b limit wb wp).lim (decide ((partition lt (aR lt d a b limit wb wp).pi.1 a b (aR lt d a b limit wb wp).pivot).1 - a≥(b - a) / 8)) (partition lt (aR lt d a b limit wb wp).pi.1 a b (aR lt d a b limit wb wp).pivot).2.1:=by
 rw [iQ,if_neg h,if_neg h0,if_neg (by rw [h1];exact Bool.false_ne_true),if_neg (by rw [h2];exact Bool.false_ne_true),if_pos h3,if_pos h4]
theorem GL (h:¬b - a≤12) (h0:¬limit=0) (h1:(aR lt d a b limit wb wp).pi.2=false) (h2:(decide (a > 0)&&!lt (aR lt d a b limit wb wp).pi.1[a - 1]! (aR lt d a b limit wb wp).pi.1[(aR lt d a b limit wb wp).pivot]!)=false) (h3:a≤(partition lt (aR lt d a b limit wb wp).pi.1 a b (aR lt d a b limit wb wp).pivot).1∧(partition lt (aR lt d a b limit wb wp).pi.1 a b (aR lt d a b limit wb wp).pivot).1 < b) (h4:¬(partition lt (aR lt d a b limit wb wp).pi.1 a b (aR lt d a b limit wb wp).pivot).1 - a < b - (partition lt (aR lt d a b limit wb wp).pi.1 a b (aR lt d a b limit wb wp).pivot).1) :
  pdq lt d a b limit wb wp=pdq lt (pdq lt (partition lt (aR lt d a b limit wb wp).pi.1 a b (aR lt d a b limit wb wp).pivot).2.2 ((partition lt (aR lt d a b limit wb wp).pi.1 a b (aR lt d a b limit wb wp).pivot).1+1) b (aR lt d a b limit wb wp).lim true true) a (partition lt (aR lt d a b limit wb wp).pi.1 a b (aR lt d a b limit wb wp).pivot).1 (aR lt d a b limit wb wp).lim (decide (b - (partition lt (aR lt d a b limit wb wp).pi.1 a b (aR lt d a b limit wb wp).pivot).1≥(b - a) / 8)) (partition lt (aR lt d a b limit wb wp).pi.1 a b (aR lt d a b limit wb wp).pivot).2.1:=by
 rw [iQ,if_neg h,if_neg h0,if_neg (by rw [h1];exact Bool.false_ne_true),if_neg (by rw [h2];exact Bool.false_ne_true),if_pos h3,if_neg h4]
theorem Ql (hh:(aR lt d a b limit wb wp).c.2=.decreasing) :
 (aR lt d a b limit wb wp).d2=reverseRange (aR lt d a b limit wb wp).d1 a b∧(aR lt d a b limit wb wp).pivot=(b - 1) - ((aR lt d a b limit wb wp).c.1 - a)∧(aR lt d a b limit wb wp).hint=.increasing:=⟨if_pos hh,if_pos hh,if_pos hh⟩
theorem Qm (hh:(aR lt d a b limit wb wp).c.2≠.decreasing) :
 (aR lt d a b limit wb wp).d2=(aR lt d a b limit wb wp).d1∧(aR lt d a b limit wb wp).pivot=(aR lt d a b limit wb wp).c.1∧(aR lt d a b limit wb wp).hint=(aR lt d a b limit wb wp).c.2:=⟨if_neg hh,if_neg hh,if_neg hh⟩
theorem GN (hc:(wb&&wp&&decide ((aR lt d a b limit wb wp).hint=.increasing))=true):(aR lt d a b limit wb wp).pi=partialInsertionSort lt (aR lt d a b limit wb wp).d2 a b:=if_pos hc
theorem Kv (hc:(wb&&wp&&decide ((aR lt d a b limit wb wp).hint=.increasing))=false):(aR lt d a b limit wb wp).pi=((aR lt d a b limit wb wp).d2,false):=if_neg (fun h=>Bool.false_ne_true (hc.symm.trans h))
theorem lG:(aR lt d a b limit wb wp).lim≤limit:=by
 show (if (!wb)=true then limit - 1 else limit)≤limit
 split<;>omega
theorem Kw (h:SWO lt) (hpi:partialInsertionSort_stmt lt) (hrev:reverseRange_stmt α) (hab:a < b) (hb:b≤d.size) (hB:Below lt a b d) :
  (aR lt d a b limit wb wp).d1.size=d.size∧Below lt a b (aR lt d a b limit wb wp).d1∧(a≤(aR lt d a b limit wb wp).c.1∧(aR lt d a b limit wb wp).c.1 < b) ∧
  (aR lt d a b limit wb wp).d2.size=d.size∧Below lt a b (aR lt d a b limit wb wp).d2∧(a≤(aR lt d a b limit wb wp).pivot∧(aR lt d a b limit wb wp).pivot < b) ∧
  (aR lt d a b limit wb wp).pi.1.size=d.size∧Below lt a b (aR lt d a b limit wb wp).pi.1:=by
 have p1:PermIn a b d (aR lt d a b limit wb wp).d1:=step_break d (Nat.le_of_lt hab) hb ((!wb)=true)
 have s1:=p1.1;have B1:=hB.perm hb p1;have c1:a≤(aR lt d a b limit wb wp).c.1∧(aR lt d a b limit wb wp).c.1 < b:=choosePivot_holds lt (aR lt d a b limit wb wp).d1 a b hab
 have p2:PermIn a b (aR lt d a b limit wb wp).d1 (aR lt d a b limit wb wp).d2:=step_reverse hrev (aR lt d a b limit wb wp).d1 (Nat.le_of_lt hab) (by rw [s1];exact hb) ((aR lt d a b limit wb wp).c.2=.decreasing)
 have s2:=p2.1.trans s1
 have B2:=B1.perm (by rw [s1];exact hb) p2
 have pv:a≤(aR lt d a b limit wb wp).pivot∧(aR lt d a b limit wb wp).pivot < b:=pivot_range c1.1 c1.2 ((aR lt d a b limit wb wp).c.2=.decreasing)
 have p3:PermIn a b (aR lt d a b limit wb wp).d2 (aR lt d a b limit wb wp).pi.1:=(step_partial hpi h (aR lt d a b limit wb wp).d2 hab (by rw [s2];exact hb) B2 ((wb&&wp&&decide ((aR lt d a b limit wb wp).hint=.increasing))=true)).1
 exact⟨s1,B1,c1,s2,B2,pv,p3.1.trans s2,B2.perm (by rw [s2];exact hb) p3⟩
end
end Go.Sort
