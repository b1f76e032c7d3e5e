import Derived.Test.YtfkblpjfknfgbaaGreatDoorRows
import Derived.Test.YtfkblpjfknfgbaaGreatDoorQ1
import Derived.WalkKit
import Derived.Deep.LoopGhost
import Derived.BigQuiet
import Derived.CellFam
import Derived.BigCall
import Derived.BigGuard
import Derived.Test.YtfkblpjfknfgbaaGreatDoorQ2
import Derived.Sort.LotD4
import Derived.Sort.LotB
import Derived.Deep.Cut
import Derived.Sort.AssemblyPlain
import Derived.Below
import Derived.Lib.Slices
import Derived.Laws.AppendOwn
import Derived.OwnWalk
import Derived.WalkSpells
import Derived.WalkLawsBesides
import Derived.Lib.Hide
import Derived.Maps.AppendAt
import Derived.Deep.AppendLies
import Derived.RegionTactic
import Derived.Lib.AppendZeros
import Derived.Lib.SliceRun
import Derived.Laws.OwnMore
import Derived.Deep.QuietTactic
import Derived.Lib.SlicesCompact
import Derived.Lib.Walk
import Derived.Deep.RegionWith
import Derived.Test.YtfkblpjfknfgbaaGreatDoorQ0
import Derived.Lib.ItoaNum
import Derived.Lib.LaidTab
import Derived.Sort.Grow
import Derived.Lib.Strings
import Derived.Lib.Builder
import Derived.Lib.AppendStr
import Derived.Lib.UnsafeStr
import Derived.Laws.Externs
set_option linter.unusedVariables false
set_option linter.unusedSimpArgs false
set_option maxHeartbeats 8000000
set_option maxRecDepth 100000
open Go.RowKit Go.Sort
open Go.Lib (hid cell_of_heap frozen_of_heap byteCells wpList_append_run run_eql_slice_nil)
open Go.World (block_lt_of_cell?)
namespace Go.Proofs.YtfkblpjfknfgbaaGreatDoor
abbrev encI:Int→Value:=fun x=>Value.int .u16 x
theorem swap_world {α:Type} [Inhabited α] (enc:α→Value) {w wr:World} {n blk off:Nat} {dk:Array α} {i j:Nat} (hi:i < dk.size) (hj:j < dk.size) (hwr:wr=putRow enc (Sort.ahead w n) blk off dk)
  {x y:Value} (hx:x=enc dk[j]!) (hy:y=enc dk[i]!):((wr.setCell ⟨blk,off+i,none⟩ x).setCell ⟨blk,off+j,none⟩ y).drew=putRow enc (Sort.ahead w (n+1)) blk off (swp dk i j):=by
 subst hwr;subst hx;subst hy
 rw [putRow_swp enc _ blk off dk i j hi hj,←ahead_drew]
 rfl
theorem qR (blk off cap:Nat) (d:Array Int) (a b:Nat) (w:World) (hH:Holds encI w blk off d) (hab:a≤b) (hb:b≤d.size) (hsz:d.size < 4611686018427387904) :
  Calls Tryz.prog 171 #[.slice (some ⟨blk,off,none⟩) d.size cap,.int .i64 a,.int .i64 b] w fun e w'=>e=.returned (.tuple #[])∧∃n,w'=putRow encI (Sort.ahead w n) blk off (reverseRange d a b):=by
 go_enter Tryz.func171,Tryz.ntmps171
 go_wp2
 go_loopg [6,7] (b - a) (fun k s6 s7 wr=>∃(i jn:Nat) (jz:Int) (dk:Array Int) (n:Nat),s6=.int .i64 i∧s7=.int .i64 jz∧((i:Int) < jz→jz=jn∧jn < d.size)∧(¬(i:Int) < jz→¬i < jn)∧jn - i≤k ∧
  dk.size=d.size∧wr=putRow encI (Sort.ahead w n) blk off dk∧reverseLoop i jn dk=reverseLoop a (b - 1) d)
 case atStart=>exact⟨a,b - 1,(b:Int) - 1,d,0,rfl,rfl,fun h=>⟨by omega,by omega⟩,fun h=>by omega,by omega,rfl,(putRow_self encI w blk off d hH).symm,rfl⟩
 case round =>
 obtain⟨i,jn,jz,dk,n,rfl,rfl,h1,h2,hk,hds,hwr,heq⟩:=hrel
 by_cases hlt:(i:Int) < jz
 ·obtain⟨rfl,hjn⟩:=h1 hlt
  have hij:i < jn:=by omega
  have hHk:Holds encI wr blk off dk:=by rw [hwr];exact holds_putRow encI _ blk off d dk (holds_ahead encI w n blk off d hH) hds
  obtain⟨ci,fi⟩:=hHk i (by omega)
  obtain⟨cj,fj⟩:=hHk jn (by omega)
  have A:Aside (wr=putRow encI (Sort.ahead w n) blk off dk):=hwr;clear hwr hHk hH h1 h2
  go_wp2_with fail
  go_region
  go_wp2
  go_roundg (jn - 1 - (i+1))
  case measure=>omega
  case rel =>
  rw [reverseLoop,if_pos hij] at heq
  exact⟨i+1,jn - 1,(jn:Int) - 1,swp dk i jn,n+1,by simp,rfl,fun h=>⟨by omega,by omega⟩,fun h=>by omega,Nat.le_refl _,by rw [size_swp];exact hds,
   swap_world encI (by omega) (by omega) A.out (by simp [encI,getElem!_pos,show jn < dk.size by omega]) rfl,heq⟩
 have hnot:=h2 hlt
 go_wp2
 go_end0
 refine⟨rfl,n,?_⟩
 rw [reverseLoop,if_neg hnot] at heq;rw [reverseRange,←heq]
end Go.Proofs.YtfkblpjfknfgbaaGreatDoor
namespace Go.Sort
variable {α:Type} [Inhabited α] (lt:α→α→Bool)
theorem Qn {hi F root:Nat} (d:Array α) (h:hi≤2*root+1):siftDown lt hi F root d=d:=by rw [siftDown,dif_pos h]
theorem yB {hi F root:Nat} (d:Array α) (h1:2*root+2 < hi) (h2:lt d[F+(2*root+1)]! d[F+(2*root+2)]! = true) (h3:lt d[F+root]! d[F+(2*root+2)]! = false):siftDown lt hi F root d=d:=by
 rw [siftDown,dif_neg (by omega),show F+(2*root+1)+1=F+(2*root+2) by omega,h2,h3]
 simp [show 2*root+1+1 < hi by omega]
theorem Co {hi F root:Nat} (d:Array α) (h1:2*root+2 < hi) (h2:lt d[F+(2*root+1)]! d[F+(2*root+2)]! = true) (h3:lt d[F+root]! d[F+(2*root+2)]! = true) :
  siftDown lt hi F root d=siftDown lt hi F (2*root+2) (swp d (F+root) (F+(2*root+2))):=by
 rw [siftDown,dif_neg (by omega),show F+(2*root+1)+1=F+(2*root+2) by omega,h2,h3]
 simp [show 2*root+1+1 < hi by omega]
theorem rA {hi F root:Nat} (d:Array α) (h0:2*root+1 < hi) (h1:2*root+2 < hi→lt d[F+(2*root+1)]! d[F+(2*root+2)]! = false) (h3:lt d[F+root]! d[F+(2*root+1)]! = false):siftDown lt hi F root d=d:=by
 rw [siftDown,dif_neg (by omega),show F+(2*root+1)+1=F+(2*root+2) by omega,h3]
 by_cases h:2*root+2 < hi
 ·simp [h1 h]
 simp [show ¬2*root+1+1 < hi by omega]
theorem vH {hi F root:Nat} (d:Array α) (h0:2*root+1 < hi) (h1:2*root+2 < hi→lt d[F+(2*root+1)]! d[F+(2*root+2)]! = false) (h3:lt d[F+root]! d[F+(2*root+1)]! = true) :
  siftDown lt hi F root d=siftDown lt hi F (2*root+1) (swp d (F+root) (F+(2*root+1))):=by
 rw [siftDown,dif_neg (by omega),show F+(2*root+1)+1=F+(2*root+2) by omega,h3]
 by_cases h:2*root+2 < hi
 ·simp [h1 h]
 simp [show ¬2*root+1+1 < hi by omega]
end Go.Sort
namespace Go.Proofs.YtfkblpjfknfgbaaGreatDoor
theorem drewN_world {α:Type} [Inhabited α] (enc:α→Value) {w wr:World} {n blk off:Nat} {dk:Array α} (hwr:wr=putRow enc (Sort.ahead w n) blk off dk) (m:Nat):wr.drewN m=putRow enc (Sort.ahead w (n+m)) blk off dk:=by
 subst hwr
 rw [←ahead_ahead]
 rfl
theorem kF (blk off len cap:Nat) (d:Array Int) (hlen:d.size=len) (lo hi first:Nat) (w:World) (hH:Holds encI w blk off d) (hlo:lo≤hi) (hb:first+hi≤d.size) (hsz:d.size < 4611686018427387904) :
  Calls Tryz.prog 199 #[.slice (some ⟨blk,off,none⟩) len cap,.int .i64 lo,.int .i64 hi,.int .i64 first] w fun e w'=>e=.returned (.tuple #[])∧∃n,w'=putRow encI (Sort.ahead w n) blk off (siftDown ltInt hi first lo d):=by
 subst hlen
 go_enter Tryz.func199,Tryz.ntmps199
 go_wp2
 go_loopg [8] (hi - lo) (fun k s8 wr=>∃(root:Nat) (dk:Array Int) (n:Nat),s8=.int .i64 root∧root≤hi∧hi - root≤k∧dk.size=d.size∧wr=putRow encI (Sort.ahead w n) blk off dk∧siftDown ltInt hi first root dk=siftDown ltInt hi first lo d)
 case atStart=>exact⟨lo,d,0,rfl,hlo,Nat.le_refl _,rfl,(putRow_self encI w blk off d hH).symm,rfl⟩
 case round =>
 obtain⟨root,dk,n,rfl,hr,hk,hds,hwr,heq⟩:=hrel
 have hHk:Holds encI wr blk off dk:=by rw [hwr];exact holds_putRow encI _ blk off d dk (holds_ahead encI w n blk off d hH) hds
 have hcw:∀t,t < d.size→wr.cell? ⟨blk,off+t,none⟩=some (.int .u16 dk[t]!):=fun t ht=>(hHk t (by omega)).1
 have hfw:∀t,t < d.size→wr.frozen? ⟨blk,off+t,none⟩=false:=fun t ht=>(hHk t (by omega)).2
 have A:Aside (wr=putRow encI (Sort.ahead w n) blk off dk):=hwr;clear hwr hH hHk
 by_cases h0:hi≤2*root+1
 ·
  have h0z:(hi:Int)≤2*(root:Int)+1:=by omega
  go_wp2
  go_end0
  refine⟨rfl,n,?_⟩
  rw [A.out,←heq,Qn ltInt dk h0]
 ·
  have h0z:¬((hi:Int)≤2*(root:Int)+1):=by omega
  by_cases h1:2*root+2 < hi
  ·have h1z:2*(root:Int)+1+1 < (hi:Int):=by omega
   go_wp2_with fail
   go_big_quiet (first | (go_at_call 173;refine Calls.quiet_of_same (ay _ _ _)))
   go_wp2_with fail
   ·
    have hL:ltInt dk[first+2*root+1]! dk[first+2*root+2]! = true:=by assumption
    revert nq;intro nq1
    have hcw2:∀t,t < d.size→(wr.drewN nq1).cell? ⟨blk,off+t,none⟩=some (.int .u16 dk[t]!):=hcw;have hfw2:∀t,t < d.size→(wr.drewN nq1).frozen? ⟨blk,off+t,none⟩=false:=hfw;have A2:Aside (wr.drewN nq1=putRow encI (Sort.ahead w (n+nq1)) blk off dk):=drewN_world encI A.out nq1;clear hcw hfw A
    generalize wr.drewN nq1=wr2 at hcw2 hfw2 A2 ⊢
    go_big_quiet (first | (go_at_call 173;refine Calls.quiet_of_same (ay _ _ _)))
    go_wp2_with fail
    ·
     have hS:ltInt dk[first+root]! dk[first+2*root+2]! = false:=by
      have:(!ltInt dk[first+root]! dk[first+2*root+2]!)=true:=by assumption
      simpa using this
     (try simp only [Exit.inBlock,Exit.then]);refine bodyPost_ret (results_none rfl _ _ _) rfl ?_
     refine⟨rfl,n+nq1+nq,?_⟩
     rw [drewN_world encI A2.out nq,←heq,yB ltInt dk h1 hL hS]
    ·
     have hG:ltInt dk[first+root]! dk[first+2*root+2]! = true:=by
      have:(!ltInt dk[first+root]! dk[first+2*root+2]!)=false:=by assumption
      simpa using this
     have hcw3:∀t,t < d.size→(wr2.drewN nq).cell? ⟨blk,off+t,none⟩=some (.int .u16 dk[t]!):=hcw2;have hfw3:∀t,t < d.size→(wr2.drewN nq).frozen? ⟨blk,off+t,none⟩=false:=hfw2;have A3:Aside (wr2.drewN nq=putRow encI (Sort.ahead w (n+nq1+nq)) blk off dk):=drewN_world encI A2.out nq;clear hcw2 hfw2 A2
     generalize wr2.drewN nq=wr3 at hcw3 hfw3 A3 ⊢
     go_region
     go_wp2
     go_roundg (hi - (2*root+2))
     case measure=>omega
     case rel =>
     refine⟨2*root+2,swp dk (first+root) (first+(2*root+1+1)),n+nq1+nq+1,by simp<;>omega,by omega,Nat.le_refl _,by rw [size_swp];exact hds,swap_world encI (by omega) (by omega) A3.out rfl rfl,?_⟩
     rw [←heq,Co ltInt dk h1 hL hG]
   ·
    have hL:ltInt dk[first+2*root+1]! dk[first+2*root+2]! = false:=by assumption
    revert nq;intro nq1
    have hcw2:∀t,t < d.size→(wr.drewN nq1).cell? ⟨blk,off+t,none⟩=some (.int .u16 dk[t]!):=hcw;have hfw2:∀t,t < d.size→(wr.drewN nq1).frozen? ⟨blk,off+t,none⟩=false:=hfw;have A2:Aside (wr.drewN nq1=putRow encI (Sort.ahead w (n+nq1)) blk off dk):=drewN_world encI A.out nq1;clear hcw hfw A
    generalize wr.drewN nq1=wr2 at hcw2 hfw2 A2 ⊢
    go_big_quiet (first | (go_at_call 173;refine Calls.quiet_of_same (ay _ _ _)))
    go_wp2_with fail
    ·
     have hS:ltInt dk[first+root]! dk[first+2*root+1]! = false:=by
      have:(!ltInt dk[first+root]! dk[first+2*root+1]!)=true:=by assumption
      simpa using this
     (try simp only [Exit.inBlock,Exit.then]);refine bodyPost_ret (results_none rfl _ _ _) rfl ?_
     refine⟨rfl,n+nq1+nq,?_⟩
     rw [drewN_world encI A2.out nq,←heq,rA ltInt dk (by omega) (fun _=>hL) hS]
    ·
     have hG:ltInt dk[first+root]! dk[first+2*root+1]! = true:=by
      have:(!ltInt dk[first+root]! dk[first+2*root+1]!)=false:=by assumption
      simpa using this
     have hcw3:∀t,t < d.size→(wr2.drewN nq).cell? ⟨blk,off+t,none⟩=some (.int .u16 dk[t]!):=hcw2;have hfw3:∀t,t < d.size→(wr2.drewN nq).frozen? ⟨blk,off+t,none⟩=false:=hfw2;have A3:Aside (wr2.drewN nq=putRow encI (Sort.ahead w (n+nq1+nq)) blk off dk):=drewN_world encI A2.out nq;clear hcw2 hfw2 A2
     generalize wr2.drewN nq=wr3 at hcw3 hfw3 A3 ⊢
     go_region
     go_wp2
     go_roundg (hi - (2*root+1))
     case measure=>omega
     case rel =>
     refine⟨2*root+1,swp dk (first+root) (first+(2*root+1)),n+nq1+nq+1,by simp<;>omega,by omega,Nat.le_refl _,by rw [size_swp];exact hds,swap_world encI (by omega) (by omega) A3.out rfl rfl,?_⟩
     rw [←heq,vH ltInt dk (by omega) (fun _=>hL) hG]
  ·
   have h1z:decide (2*(root:Int)+1+1 < (hi:Int))=false:=decide_eq_false (by omega)
   go_wp2_with fail
   go_big_quiet (first | (go_at_call 173;refine Calls.quiet_of_same (ay _ _ _)))
   go_wp2_with fail
   revert nq;intro nq1
   have hcw2:∀t,t < d.size→(wr.drewN nq1).cell? ⟨blk,off+t,none⟩=some (.int .u16 dk[t]!):=hcw;have hfw2:∀t,t < d.size→(wr.drewN nq1).frozen? ⟨blk,off+t,none⟩=false:=hfw;have A2:Aside (wr.drewN nq1=putRow encI (Sort.ahead w (n+nq1)) blk off dk):=drewN_world encI A.out nq1;clear hcw hfw A
   generalize wr.drewN nq1=wr2 at hcw2 hfw2 A2 ⊢
   go_big_quiet (first | (go_at_call 173;refine Calls.quiet_of_same (ay _ _ _)))
   go_wp2_with fail
   ·
    have hS:ltInt dk[first+root]! dk[first+2*root+1]! = false:=by
     have:(!ltInt dk[first+root]! dk[first+2*root+1]!)=true:=by assumption
     simpa using this
    (try simp only [Exit.inBlock,Exit.then]);refine bodyPost_ret (results_none rfl _ _ _) rfl ?_
    refine⟨rfl,n+nq1+nq,?_⟩
    rw [drewN_world encI A2.out nq,←heq,rA ltInt dk (by omega) (fun h=>absurd h h1) hS]
   ·
    have hG:ltInt dk[first+root]! dk[first+2*root+1]! = true:=by
     have:(!ltInt dk[first+root]! dk[first+2*root+1]!)=false:=by assumption
     simpa using this
    have hcw3:∀t,t < d.size→(wr2.drewN nq).cell? ⟨blk,off+t,none⟩=some (.int .u16 dk[t]!):=hcw2;have hfw3:∀t,t < d.size→(wr2.drewN nq).frozen? ⟨blk,off+t,none⟩=false:=hfw2;have A3:Aside (wr2.drewN nq=putRow encI (Sort.ahead w (n+nq1+nq)) blk off dk):=drewN_world encI A2.out nq;clear hcw2 hfw2 A2
    generalize wr2.drewN nq=wr3 at hcw3 hfw3 A3 ⊢
    go_region
    go_wp2
    go_roundg (hi - (2*root+1))
    case measure=>omega
    case rel =>
    refine⟨2*root+1,swp dk (first+root) (first+(2*root+1)),n+nq1+nq+1,by simp<;>omega,by omega,Nat.le_refl _,by rw [size_swp];exact hds,swap_world encI (by omega) (by omega) A3.out rfl rfl,?_⟩
    rw [←heq,vH ltInt dk (by omega) (fun h=>absurd h h1) hG]
end Go.Proofs.YtfkblpjfknfgbaaGreatDoor
namespace Go.Sort
variable {α:Type} [Inhabited α] (lt:α→α→Bool)
theorem dH (hi F:Nat):∀(n root:Nat) (d:Array α),hi - root≤n→(siftDown lt hi F root d).size=d.size:=by
 intro n
 induction n with
 | zero=>intro root d h;rw [siftDown,dif_pos (by omega)]
 | succ n ih =>
  intro root d h
  rw [siftDown]
  split
  ·rfl
  split
  ·split
   ·rfl
   split
   ·rw [ih _ _ (by omega),size_swp]
   rfl
  split
  ·rfl
  rw [ih _ _ (by omega),size_swp]
end Go.Sort
namespace Go.Proofs.YtfkblpjfknfgbaaGreatDoor
theorem half_start {a b:Nat} (hab:a≤b):((b:Int) - (a:Int) - 1).tdiv 2=(((b - a - 1) / 2+1:Nat):Int) - 1:=by
 by_cases h:a=b
 ·subst h
  have:((a:Int) - (a:Int) - 1) = -1:=by omega
  rw [this]
  simp
 rw [Int.tdiv_eq_ediv_of_nonneg (by omega)]
 omega
theorem vW (blk off len cap:Nat) (d:Array Int) (hlen:d.size=len) (a b:Nat) (w:World) (hH:Holds encI w blk off d) (hab:a≤b) (hb:b≤d.size) (hsz:d.size < 4611686018427387904) :
  Calls Tryz.prog 168 #[.slice (some ⟨blk,off,none⟩) len cap,.int .i64 a,.int .i64 b] w fun e w'=>e=.returned (.tuple #[])∧∃n,w'=putRow encI (Sort.ahead w n) blk off (heapSort ltInt d a b):=by
 subst hlen
 have ecast:((b - a:Nat):Int)=(b:Int) - (a:Int):=by omega
 go_enter Tryz.func168,Tryz.ntmps168
 go_wp2
 go_loopg [9] ((b - a - 1) / 2+1) (fun k s9 wr=>s9=.int .i64 ((k:Int) - 1)∧k≤(b - a - 1) / 2+1∧∃(dk:Array Int) (n:Nat),dk.size=d.size∧wr=putRow encI (Sort.ahead w n) blk off dk ∧
  heapBuild ltInt (b - a) a k dk=heapBuild ltInt (b - a) a ((b - a - 1) / 2+1) d)
 case atStart=>exact⟨by rw [half_start hab],Nat.le_refl _,d,0,rfl,(putRow_self encI w blk off d hH).symm,rfl⟩
 case round =>
 obtain⟨rfl,hkk,dk,n,hds,hwr,heq⟩:=hrel
 have hHk:Holds encI wr blk off dk:=by rw [hwr];exact holds_putRow encI _ blk off d dk (holds_ahead encI w n blk off d hH) hds
 have A:Aside (wr=putRow encI (Sort.ahead w n) blk off dk):=hwr;clear hwr
 cases gk with
 | zero =>
  have hB:dk=heapBuild ltInt (b - a) a ((b - a - 1) / 2+1) d:=heq
  clear heq hHk hkk
  go_wp2
  go_loopg [10] (b - a) (fun k s10 wr2=>s10=.int .i64 ((k:Int) - 1)∧k≤b - a∧∃(dj:Array Int) (n2:Nat),dj.size=d.size∧wr2=putRow encI (Sort.ahead w n2) blk off dj∧heapPop ltInt a k dj=heapPop ltInt a (b - a) dk)
  case atStart=>exact⟨by rw [ecast],Nat.le_refl _,dk,n,hds,A.out,rfl⟩
  case round =>
  obtain⟨rfl,hkk,dj,n2,hdj,hwr2,heq2⟩:=hrel
  cases gk with
  | zero =>
   go_wp2
   go_end0
   refine⟨rfl,n2,?_⟩
   have e:dj=heapSort ltInt d a b:=by rw [heapSort,←hB,←heq2];rfl
   rw [←e]
  | succ k =>
   have hHj:Holds encI wr blk off dj:=by rw [hwr2];exact holds_putRow encI _ blk off d dj (holds_ahead encI w n2 blk off d hH) hdj
   have hcw:∀t,t < d.size→wr.cell? ⟨blk,off+t,none⟩=some (.int .u16 dj[t]!):=fun t ht=>(hHj t (by omega)).1
   have hfw:∀t,t < d.size→wr.frozen? ⟨blk,off+t,none⟩=false:=fun t ht=>(hHj t (by omega)).2
   have A2:Aside (wr=putRow encI (Sort.ahead w n2) blk off dj):=hwr2;clear hwr2 hHj
   rcases Nat.eq_zero_or_pos k with hk0 | hkp
   ·subst hk0
    go_wp2_with fail
    go_region
    go_wp2_with fail
    rw [swap_world encI (i:=a) (j:=a) (by omega) (by omega) A2.out rfl rfl]
    refine (kF blk off d.size cap (swp dj a (a)) (by rw [size_swp];exact hdj) 0 0 a _ (holds_putRow encI _ blk off d _ (holds_ahead encI w (n2+1) blk off d hH) (by rw [size_swp];exact hdj)) (Nat.zero_le _) (by rw [size_swp];omega) (by rw [size_swp];omega)).mono ?_
    rintro e w1 ⟨rfl,m,hw1⟩
    go_wp2
    go_roundg 0
    case measure=>omega
    case rel =>
    refine⟨by simp,by omega,siftDown ltInt 0 a 0 (swp dj a (a)),n2+1+m,by rw [dH ltInt _ _ _ _ _ (Nat.le_refl _),size_swp];exact hdj,?_,heq2⟩
    first
     | rw [hw1,putRow_ahead_putRow encI w (n2+1) m blk off _ _ (dH ltInt _ _ _ _ _ (Nat.le_refl _))]
     | rw [putRow_ahead_putRow encI w (n2+1) m blk off _ _ (dH ltInt _ _ _ _ _ (Nat.le_refl _))]
   skip
   go_wp2_with fail
   go_region
   go_wp2_with fail
   rw [swap_world encI (i:=a) (j:=a+k) (by omega) (by omega) A2.out rfl rfl]
   refine (kF blk off d.size cap (swp dj a (a+k)) (by rw [size_swp];exact hdj) 0 k a _ (holds_putRow encI _ blk off d _ (holds_ahead encI w (n2+1) blk off d hH) (by rw [size_swp];exact hdj)) (Nat.zero_le _) (by rw [size_swp];omega) (by rw [size_swp];omega)).mono ?_
   rintro e w1 ⟨rfl,m,hw1⟩
   go_wp2
   go_roundg k
   case measure=>omega
   case rel =>
   refine⟨by simp,by omega,siftDown ltInt k a 0 (swp dj a (a+k)),n2+1+m,by rw [dH ltInt _ _ _ _ _ (Nat.le_refl _),size_swp];exact hdj,?_,heq2⟩
   first
    | rw [hw1,putRow_ahead_putRow encI w (n2+1) m blk off _ _ (dH ltInt _ _ _ _ _ (Nat.le_refl _))]
    | rw [putRow_ahead_putRow encI w (n2+1) m blk off _ _ (dH ltInt _ _ _ _ _ (Nat.le_refl _))]
 | succ k =>
  have hcall:=kF blk off d.size cap dk hds k (b - a) a wr hHk (by omega) (by omega) (by omega)
  rw [ecast] at hcall
  go_wp2_with (go_at_call 199;refine hcall.mono ?_;rintro e w1 ⟨rfl,m,hw1⟩)
  go_roundg k
  case measure=>omega
  case rel =>
  refine⟨by simp,by omega,siftDown ltInt (b - a) a k dk,n+m,by rw [dH ltInt _ _ _ _ _ (Nat.le_refl _)];exact hds,?_,heq⟩
  rw [A.out,putRow_ahead_putRow encI w n m blk off dk _ (dH ltInt _ _ _ _ _ (Nat.le_refl _))]
structure Callees13:Prop where
 ins:∀(blk off cap a b:Nat) (d:Array Int) (w:World),Holds encI w blk off d→a≤b→b≤d.size→d.size < 4611686018427387904 →
  Calls Tryz.prog 167 #[.slice (some ⟨blk,off,none⟩) d.size cap,.int .i64 a,.int .i64 b] w fun e w'=>e=.returned (.tuple #[])∧∃n,w'=putRow encI (Sort.ahead w n) blk off (insertionSort ltInt d a b)
 brk:∀(blk off cap a b:Nat) (d:Array Int) (w:World),Holds encI w blk off d→blk < w.heap.size→a≤b→b≤d.size→d.size < 4611686018427387904 →
  Calls Tryz.prog 169 #[.slice (some ⟨blk,off,none⟩) d.size cap,.int .i64 a,.int .i64 b] w fun e w'=>e=.returned (.tuple #[])∧∃n os,w'=grow (putRow encI (Sort.ahead w n) blk off (breakPatterns d a b)) os
 piv:∀(blk off cap a b:Nat) (d:Array Int) (w:World),Holds encI w blk off d→blk < w.heap.size→a < b→b≤d.size→d.size < 4611686018427387904 →
  Calls Tryz.prog 170 #[.slice (some ⟨blk,off,none⟩) d.size cap,.int .i64 a,.int .i64 b] w fun e w'=>e=.returned (.tuple #[.int .i64 (choosePivot ltInt d a b).1,.int .i64 (hintCode (choosePivot ltInt d a b).2)])∧∃n os,w'=grow (Sort.ahead w n) os
 par:∀(blk off cap a b:Nat) (d:Array Int) (w:World),Holds encI w blk off d→a < b→b≤d.size→d.size < 4611686018427387904 →
  Calls Tryz.prog 172 #[.slice (some ⟨blk,off,none⟩) d.size cap,.int .i64 a,.int .i64 b] w fun e w'=>e=.returned (.bool (partialInsertionSort ltInt d a b).2)∧∃n,w'=putRow encI (Sort.ahead w n) blk off (partialInsertionSort ltInt d a b).1
 peq:∀(blk off cap a b pivot:Nat) (d:Array Int) (w:World),Holds encI w blk off d→a≤pivot→pivot < b→b≤d.size→d.size < 4611686018427387904 →
  Calls Tryz.prog 174 #[.slice (some ⟨blk,off,none⟩) d.size cap,.int .i64 a,.int .i64 b,.int .i64 pivot] w fun e w'=>e=.returned (.int .i64 (partitionEqual ltInt d a b pivot).1)∧∃n,w'=putRow encI (Sort.ahead w n) blk off (partitionEqual ltInt d a b pivot).2
 prt:∀(blk off cap a b pivot:Nat) (d:Array Int) (w:World),Holds encI w blk off d→a≤pivot→pivot < b→b≤d.size→d.size < 4611686018427387904 →
  Calls Tryz.prog 175 #[.slice (some ⟨blk,off,none⟩) d.size cap,.int .i64 a,.int .i64 b,.int .i64 pivot] w fun e w'=>e=.returned (.tuple #[.int .i64 (partition ltInt d a b pivot).1,.bool (partition ltInt d a b pivot).2.1])∧∃n,w'=putRow encI (Sort.ahead w n) blk off (partition ltInt d a b pivot).2.2
structure Plain13:Prop where
 swo:SWO ltInt
 ins:insertionSort_stmt ltInt
 par:partialInsertionSort_stmt ltInt
 prt:partition_stmt ltInt
 peq:partitionEqual_stmt ltInt
 pdq:pdq_stmt ltInt
theorem hintCode_two {h:Hint} (e:hintCode h=2):h=.decreasing:=by cases h<;>simp [hintCode] at e ⊢
theorem eighth {x y p q:Nat} (h1:q≤p) (h2:y≤x):decide (((x:Int) - (y:Int)) / 8≤(p:Int) - (q:Int))=decide (p - q≥(x - y) / 8) :=
 decide_eq_decide.2 ⟨fun h=>by omega,fun h=>by omega⟩
theorem yC (C:Callees13) (S:Plain13):∀(N blk off cap a b limit:Nat) (d:Array Int) (w:World),b - a < N→Holds encI w blk off d→blk < w.heap.size→a≤b→b≤d.size→d.size < 4611686018427387904→limit < 4611686018427387904→Below ltInt a b d →
  Calls Tryz.prog 129 #[.slice (some ⟨blk,off,none⟩) d.size cap,.int .i64 a,.int .i64 b,.int .i64 limit] w fun e w'=>e=.returned (.tuple #[])∧vV encI w blk off (pdq ltInt d a b limit true true) w':=by
 intro N
 induction N with
 | zero=>intro _ _ _ _ _ _ _ _ h;exact absurd h (Nat.not_lt_zero _)
 | succ N ih =>
  intro blk off cap a b limit d w hN hH hblk hab hb hsz hlimit hBel0
  go_enter Tryz.func129,Tryz.ntmps129
  go_wp2
  go_loopg [1,2,3,8,9] (b - a) (fun k s1 s2 s3 s8 s9 wr=>∃(a' b' lim:Nat) (wb wp:Bool) (dk:Array Int),s1=.int .i64 a'∧s2=.int .i64 b'∧s3=.int .i64 lim∧s8=.bool wb∧s9=.bool wp ∧
   a'≤b'∧b'≤d.size∧b' - a'≤k∧k≤b - a∧lim≤limit∧dk.size=d.size∧Below ltInt a' b' dk∧vV encI w blk off dk wr∧pdq ltInt dk a' b' lim wb wp=pdq ltInt d a b limit true true)
  case atStart=>exact⟨a,b,limit,true,true,d,rfl,rfl,rfl,rfl,rfl,hab,hb,Nat.le_refl _,Nat.le_refl _,Nat.le_refl _,rfl,hBel0,vV.refl hH,rfl⟩
  case round =>
  obtain⟨a',b',lim,wb,wp,dk,rfl,rfl,rfl,rfl,rfl,hab',hb',hk,hkN,hlim,hds,hBel,hAt,heq⟩:=hrel
  obtain⟨hHk,hblk'⟩:=hAt.holds hH hds hblk;have A:Aside (pdq ltInt dk a' b' lim wb wp=pdq ltInt d a b limit true true):=heq;clear heq
  by_cases h12:b' - a'≤12
  ·
   have h12z:(b':Int) - (a':Int)≤12:=by omega
   have hc:=C.ins blk off cap a' b' dk wr hHk hab' (by omega) (by omega)
   rw [hds] at hc
   go_wp2_with (go_at_call 167;refine hc.mono ?_;rintro e w1 ⟨rfl,hw1⟩)
   (try simp only [Exit.inBlock,Exit.then]);refine bodyPost_ret (results_none rfl _ _ _) rfl ?_
   refine⟨rfl,?_⟩
   rw [←A.out,GK h12]
   exact hAt.step hblk (S.ins S.swo dk a' b' hab' (by omega)).1.1 hw1
  have h12z:¬((b':Int) - (a':Int)≤12):=by omega
  by_cases hl0:lim=0
  ·
   subst hl0
   have hc:=vW blk off d.size cap dk hds a' b' wr hHk hab' (by omega) (by omega)
   go_wp2_with (go_at_call 168;refine hc.mono ?_;rintro e w1 ⟨rfl,hw1⟩)
   (try simp only [Exit.inBlock,Exit.then]);refine bodyPost_ret (results_none rfl _ _ _) rfl ?_
   refine⟨rfl,?_⟩
   rw [←A.out,Kr h12 rfl]
   exact hAt.step hblk (heapSort_holds S.swo dk a' b' hab' (by omega)).1.1 hw1
  have hl0z:¬((lim:Int)=0):=by omega
  obtain⟨s1,B1,hc1,s2,B2,hpv,s3,B3⟩:=Kw (limit:=lim) (wb:=wb) (wp:=wp) S.swo S.par reverseRange_holds (show a' < b' by omega) (show b'≤dk.size by omega) hBel
  go_upto_if 35 with fail
  go_cut [3] from 19 (fun s3 wc=>s3=.int .i64 (aR ltInt dk a' b' lim wb wp).lim∧vV encI w blk off (aR ltInt dk a' b' lim wb wp).d1 wc)
  case first =>
   cases wb
   ·have hc:=C.brk blk off cap a' b' dk wr hHk hblk' hab' (by omega) (by omega)
    rw [hds] at hc
    go_wp2_with (go_at_call 169;refine hc.mono ?_;rintro e w1 ⟨rfl,hw1⟩)
    go_meet
    case rel =>
    refine⟨?_,hAt.stepG hblk s1 hw1⟩
    show Value.int .i64 ((lim:Int) - 1)=Value.int .i64 ((lim - 1:Nat):Int)
    congr 1
    omega
   go_wp2_with fail
   go_meet
   case rel=>exact⟨rfl,hAt⟩
  case rest =>
  obtain⟨rfl,hAt1⟩:=hcut
  obtain⟨hH1,hblk1⟩:=hAt1.holds hH (s1.trans hds) hblk
  have hc17:Calls Tryz.prog 170 #[.slice (some ⟨blk,off,none⟩) d.size cap,.int .i64 a',.int .i64 b'] wc fun e w'=>e=.returned (.tuple #[.int .i64 (aR ltInt dk a' b' lim wb wp).c.1,.int .i64 (hintCode (aR ltInt dk a' b' lim wb wp).c.2)])∧∃n os,w'=grow (Sort.ahead wc n) os:=by
   have:=C.piv blk off cap a' b' (aR ltInt dk a' b' lim wb wp).d1 wc hH1 hblk1 (by omega) (by omega) (by omega)
   rw [s1,hds] at this
   exact this
  go_upto_if 50 with (go_at_call 170;refine hc17.mono ?_;rintro e w2 ⟨rfl,hw2⟩)
  have hAt2:vV encI w blk off (aR ltInt dk a' b' lim wb wp).d1 w2:=hAt1.same hH (s1.trans hds) hblk hw2;obtain⟨hH2,hblk2⟩:=hAt2.holds hH (s1.trans hds) hblk
  go_cut [11,12] from 19 (fun s11 s12 wc=>s11=.int .i64 (aR ltInt dk a' b' lim wb wp).pivot∧s12=.int .i64 (hintCode (aR ltInt dk a' b' lim wb wp).hint)∧vV encI w blk off (aR ltInt dk a' b' lim wb wp).d2 wc)
  case first =>
   by_cases hh:(aR ltInt dk a' b' lim wb wp).c.2=.decreasing
   ·have hcode:hintCode (aR ltInt dk a' b' lim wb wp).c.2=2:=by rw [hh];rfl
    obtain⟨e2,epv,eht⟩:=Ql hh
    have hc18:=qR blk off cap (aR ltInt dk a' b' lim wb wp).d1 a' b' w2 hH2 hab' (by omega) (by omega)
    rw [s1,hds] at hc18
    go_wp2_with (go_at_call 171;refine hc18.mono ?_;rintro e w3 ⟨rfl,hw3⟩)
    go_meet
    case rel =>
    refine⟨?_,by rw [eht];rfl,by rw [e2];exact hAt2.step hblk (by rw [←e2,s2,s1]) hw3⟩
    rw [epv]
    congr 1
    omega
   have hcode:¬(hintCode (aR ltInt dk a' b' lim wb wp).c.2=2):=fun h=>hh (hintCode_two h)
   obtain⟨e2,epv,eht⟩:=Qm hh
   go_wp2_with fail
   go_meet
   case rel=>exact⟨by rw [epv],by rw [eht],by rw [e2];exact hAt2⟩
  case rest =>
  obtain⟨rfl,rfl,hAt3⟩:=hcut
  obtain⟨hH3,hblk3⟩:=hAt3.holds hH (s2.trans hds) hblk
  go_upto_region 15 with fail
  go_cut [12,68] from 19 (fun s12 s68 wx=>s12=.int .i64 (hintCode (aR ltInt dk a' b' lim wb wp).hint)∧s68=.bool (wb&&wp&&decide ((aR ltInt dk a' b' lim wb wp).hint=.increasing))∧wx=wc)
  case first =>
   cases wb<;>cases wp<;>cases hh3:(aR ltInt dk a' b' lim _ _).hint <;>
    (have hcode3:=congrArg hintCode hh3
     simp only [hintCode] at hcode3
     go_wp2_with fail
     go_meet
     exact⟨by simp [hh3,hintCode],by simp [hh3,hintCode],rfl⟩)
  case rest =>
  obtain⟨rfl,rfl,rfl⟩:=hcut
  go_upto_if 68 with fail
  go_cut [] from 19 (fun wx=>(aR ltInt dk a' b' lim wb wp).pi.2=false∧vV encI w blk off (aR ltInt dk a' b' lim wb wp).pi.1 wx)
  case first =>
   cases h68:(wb&&wp&&decide ((aR ltInt dk a' b' lim wb wp).hint=.increasing))
   ·have epi:=Kv h68
    go_wp2_with fail
    go_meet
    case rel=>exact⟨by rw [epi],by rw [epi];exact hAt3⟩
   have epi:=GN h68
   have hc19:=C.par blk off cap a' b' (aR ltInt dk a' b' lim wb wp).d2 wc hH3 (by omega) (by omega) (by omega)
   rw [s2,hds,←epi] at hc19
   go_wp2_with (go_at_call 172;refine hc19.mono ?_;rintro e w4 ⟨rfl,hw4⟩)
   all_goals first
    | (have hp2:(aR ltInt dk a' b' lim wb wp).pi.2=false:=by rw [epi];assumption
       go_meet
       exact⟨hp2,hAt3.step hblk (by rw [s3,s2]) hw4⟩)
    | (have hp2:(aR ltInt dk a' b' lim wb wp).pi.2=true:=by rw [epi];assumption
       (try simp only [Exit.inBlock,Exit.then]);refine bodyPost_ret (results_none rfl _ _ _) rfl ?_
       refine⟨rfl,?_⟩
       rw [←A.out,Kt h12 hl0 hp2]
       exact hAt3.step hblk (by rw [s3,s2]) hw4)
  case rest =>
  obtain⟨hp2,hAt5⟩:=hcut
  obtain⟨hH5,hblk5⟩:=hAt5.holds hH (s3.trans hds) hblk
  have hcw:∀t,t < d.size→wc.cell? ⟨blk,off+t,none⟩=some (.int .u16 (aR ltInt dk a' b' lim wb wp).pi.1[t]!):=fun t ht=>(hH5 t (by omega)).1
  have hfw:∀t,t < d.size→wc.frozen? ⟨blk,off+t,none⟩=false:=fun t ht=>(hH5 t (by omega)).2
  go_upto_region 17 with fail
  go_cut [87] from 19 (fun s87 wx=>s87=.bool (decide (a' > 0)&&!ltInt (aR ltInt dk a' b' lim wb wp).pi.1[a' - 1]! (aR ltInt dk a' b' lim wb wp).pi.1[(aR ltInt dk a' b' lim wb wp).pivot]!)∧vV encI w blk off (aR ltInt dk a' b' lim wb wp).pi.1 wx)
  case first =>
   rcases Nat.eq_zero_or_pos a' with ha0 | ha0
   ·have ha0z:decide ((a':Int) > 0)=false:=decide_eq_false (by omega)
    go_big_quiet (first | (go_at_call 173;refine Calls.quiet_of_same (ay _ _ _)))
    go_wp2_with fail
    go_meet
    case rel=>exact⟨by simp [ha0],hAt5.ahead nq⟩
   have ha0z:(a':Int) > 0:=by omega
   go_big_quiet (first | (go_at_call 173;refine Calls.quiet_of_same (ay _ _ _)))
   go_wp2_with fail
   go_meet
   case rel=>exact⟨by simp [ha0],hAt5.ahead nq⟩
  case rest =>
  obtain⟨rfl,hAt6⟩:=hcut
  obtain⟨hH6,hblk6⟩:=hAt6.holds hH (s3.trans hds) hblk;clear hcw hfw
  cases h87:(decide (a' > 0)&&!ltInt (aR ltInt dk a' b' lim wb wp).pi.1[a' - 1]! (aR ltInt dk a' b' lim wb wp).pi.1[(aR ltInt dk a' b' lim wb wp).pivot]!)
  ·
   obtain⟨mid,ap,d4,hx⟩:∃mid ap d4,partition ltInt (aR ltInt dk a' b' lim wb wp).pi.1 a' b' (aR ltInt dk a' b' lim wb wp).pivot=(mid,ap,d4):=⟨(partition ltInt (aR ltInt dk a' b' lim wb wp).pi.1 a' b' (aR ltInt dk a' b' lim wb wp).pivot).1,(partition ltInt (aR ltInt dk a' b' lim wb wp).pi.1 a' b' (aR ltInt dk a' b' lim wb wp).pivot).2.1,(partition ltInt (aR ltInt dk a' b' lim wb wp).pi.1 a' b' (aR ltInt dk a' b' lim wb wp).pivot).2.2,rfl⟩
   obtain⟨r1,r2,r3,r4,r5,r6,r7⟩:=round_part S.swo S.prt hpv.1 hpv.2 (show b'≤(aR ltInt dk a' b' lim wb wp).pi.1.size by omega) B3 hx
   have hc22:=C.prt blk off cap a' b' (aR ltInt dk a' b' lim wb wp).pivot (aR ltInt dk a' b' lim wb wp).pi.1 wc hH6 hpv.1 hpv.2 (by omega) (by omega)
   rw [s3,hds,hx] at hc22;have X:Aside (partition ltInt (aR ltInt dk a' b' lim wb wp).pi.1 a' b' (aR ltInt dk a' b' lim wb wp).pivot=(mid,ap,d4)):=hx;clear hx
   go_upto_if 113 with (go_at_call 175;refine hc22.mono ?_;rintro e w7 ⟨rfl,hw7⟩)
   have hx:=X.out;have hAt7:vV encI w blk off d4 w7:=hAt6.step hblk r3 hw7;obtain⟨hH7,hblk7⟩:=hAt7.holds hH (r3.trans (s3.trans hds)) hblk
   by_cases h4:mid - a' < b' - mid
   ·have h4z:(mid:Int) - (a':Int) < (b':Int) - (mid:Int):=by omega
    have hih:=ih blk off cap a' mid (aR ltInt dk a' b' lim wb wp).lim d4 w7 (by omega) hH7 hblk7 (by omega) (by omega) (by omega) (Nat.lt_of_le_of_lt (Nat.le_trans lG hlim) hlimit) r4
    rw [r3,s3,hds] at hih
    obtain⟨pL,sL⟩:=S.pdq S.swo d4 a' mid (aR ltInt dk a' b' lim wb wp).lim true true (by omega) (by omega) r4
    go_wp2_with (go_at_call 129;refine hih.mono ?_;rintro e w8 ⟨rfl,hw8⟩)
    go_roundg (b' - (mid+1))
    case measure=>omega
    case rel =>
    refine⟨mid+1,b',(aR ltInt dk a' b' lim wb wp).lim,decide (mid - a'≥(b' - a') / 8),ap,pdq ltInt d4 a' mid (aR ltInt dk a' b' lim wb wp).lim true true,by simp,rfl,rfl,?_,rfl,by omega,by omega,Nat.le_refl _,by omega,Nat.le_trans lG hlim,by rw [pL.1,r3,s3,hds],(r6 _ pL sL).1,hAt7.stepG hblk pL.1 hw8,?_⟩
    ·exact congrArg Value.bool (eighth (by omega) (by omega))
    rw [←A.out,Ku h12 hl0 hp2 h87 (by rw [hx];exact⟨r1,r2⟩) (by rw [hx];exact h4),hx]
   have h4z:¬((mid:Int) - (a':Int) < (b':Int) - (mid:Int)):=by omega
   have hih:=ih blk off cap (mid+1) b' (aR ltInt dk a' b' lim wb wp).lim d4 w7 (by omega) hH7 hblk7 (by omega) (by omega) (by omega) (Nat.lt_of_le_of_lt (Nat.le_trans lG hlim) hlimit) r5
   rw [r3,s3,hds] at hih
   obtain⟨pL,sL⟩:=S.pdq S.swo d4 (mid+1) b' (aR ltInt dk a' b' lim wb wp).lim true true (by omega) (by omega) r5
   go_wp2_with (go_at_call 129;refine hih.mono ?_;rintro e w8 ⟨rfl,hw8⟩)
   go_roundg (mid - a')
   case measure=>omega
   case rel =>
   refine⟨a',mid,(aR ltInt dk a' b' lim wb wp).lim,decide (b' - mid≥(b' - a') / 8),ap,pdq ltInt d4 (mid+1) b' (aR ltInt dk a' b' lim wb wp).lim true true,rfl,rfl,rfl,?_,rfl,by omega,by omega,Nat.le_refl _,by omega,Nat.le_trans lG hlim,by rw [pL.1,r3,s3,hds],(r7 _ pL sL).1,hAt7.stepG hblk pL.1 hw8,?_⟩
   ·exact congrArg Value.bool (eighth (by omega) (by omega))
   rw [←A.out,GL h12 hl0 hp2 h87 (by rw [hx];exact⟨r1,r2⟩) (by rw [hx];exact h4),hx]
  ·
   have h87':=h87;simp only [Bool.and_eq_true,decide_eq_true_eq,Bool.not_eq_true'] at h87';obtain⟨mid,d4,hx⟩:∃mid d4,partitionEqual ltInt (aR ltInt dk a' b' lim wb wp).pi.1 a' b' (aR ltInt dk a' b' lim wb wp).pivot=(mid,d4):=⟨(partitionEqual ltInt (aR ltInt dk a' b' lim wb wp).pi.1 a' b' (aR ltInt dk a' b' lim wb wp).pivot).1,(partitionEqual ltInt (aR ltInt dk a' b' lim wb wp).pi.1 a' b' (aR ltInt dk a' b' lim wb wp).pivot).2,rfl⟩
   obtain⟨r1,r2,r3,r4,_⟩:=round_eq S.swo S.peq h87'.1 hpv.1 hpv.2 (show b'≤(aR ltInt dk a' b' lim wb wp).pi.1.size by omega) B3 h87'.2 hx
   have hc21:=C.peq blk off cap a' b' (aR ltInt dk a' b' lim wb wp).pivot (aR ltInt dk a' b' lim wb wp).pi.1 wc hH6 hpv.1 hpv.2 (by omega) (by omega)
   rw [s3,hds,hx] at hc21;have X:Aside (partitionEqual ltInt (aR ltInt dk a' b' lim wb wp).pi.1 a' b' (aR ltInt dk a' b' lim wb wp).pivot=(mid,d4)):=hx;clear hx
   go_wp2_with (go_at_call 174;refine hc21.mono ?_;rintro e w7 ⟨rfl,hw7⟩)
   go_roundg (b' - mid)
   case measure=>omega
   case rel =>
   have hx:=X.out
   exact⟨mid,b',(aR ltInt dk a' b' lim wb wp).lim,wb,wp,d4,rfl,rfl,rfl,rfl,rfl,r2,hb',Nat.le_refl _,by omega,Nat.le_trans lG hlim,by rw [r3,s3,hds],r4,hAt6.step hblk r3 hw7,by rw [←A.out,Qk h12 hl0 hp2 h87 (by rw [hx];exact⟨r1,r2⟩),hx]⟩
theorem callees13:Callees13 where
 ins:=oQ
 brk:=pU
 piv:=rW
 par:=kQ
 peq:=kE
 prt:=m_
theorem plain13:Plain13 where
 swo:=swo_ltInt
 ins:=insertionSort_holds
 par:=partialInsertionSort_holds
 prt:=partition_holds _
 peq:=partitionEqual_holds _
 pdq:=pdq_sorts _
theorem pdqWalkInt:pdqWalk_int:=fun blk off cap a b limit d w hH hb hab hbd hsz hl hB =>
 yC callees13 plain13 (b - a+1) blk off cap a b limit d w (by omega) hH hb hab hbd hsz hl hB
theorem sort_int_eq (zs:List Int):Sort.sort ltInt zs.toArray=(zs.mergeSort fun x y=>decide (x≤y)).toArray:=by
 rw [←sortInt zs]
theorem yD (blk off cap:Nat) (zs:List Int) (w:World) (hH:Holds (Value.int .u16) w blk off zs.toArray) (hblk:blk < w.heap.size) (hsz:zs.length < 4611686018427387904) :
  Calls Tryz.prog 92 #[.slice (some ⟨blk,off,none⟩) zs.length cap] w fun e w' =>
   e=.returned (.tuple #[])∧∃n os,w'=grow (putRow (Value.int .u16) (Sort.ahead w n) blk off (zs.mergeSort fun x y=>decide (x≤y)).toArray) os:=by
 have h:=C_ pdqWalkInt blk off cap zs.toArray w hH hblk (by simpa using hsz)
 rw [sort_int_eq] at h
 simpa using h
def FS (w:World) (v:Value) (zs:List Int):Prop :=
 ∃(p:Option Addr) (c:Nat),v=.slice p zs.length c∧zs.length≤c∧(zs.length=0∨∃b off,p=some ⟨b,off,none⟩∧∀j,j < zs.length→w.cell? ⟨b,off+j,none⟩=some (.int .u16 (zs.getD j 0)))
def FN (B:Nat) (w:World) (v:Value) (zs:List Int):Prop :=
 ∃(p:Option Addr) (c:Nat),v=.slice p zs.length c∧zs.length≤c∧(zs.length=0∨∃b off,p=some ⟨b,off,none⟩∧B≤b∧Sort.Holds (Value.int .u16) w b off zs.toArray)
theorem FS.keep {w w':World} {v:Value} {zs:List Int} (h:FS w v zs) (hb:Below w.heap.size w w'):FS w' v zs:=by
 obtain⟨p,c,hv,hc,h⟩:=h
 refine⟨p,c,hv,hc,h.imp id ?_⟩
 rintro⟨b,off,hp,h2⟩
 refine⟨b,off,hp,fun j hj=>?_⟩
 have h3:=h2 j hj
 exact (hb.cell (block_lt_of_cell? w _ h3)).trans h3
theorem FN.fs {B:Nat} {w:World} {v:Value} {zs:List Int} (h:FN B w v zs):FS w v zs:=by
 obtain⟨p,c,hv,hc,h⟩:=h
 refine⟨p,c,hv,hc,h.imp id ?_⟩
 rintro⟨b,off,hp,_,h2⟩
 refine⟨b,off,hp,fun j hj=>?_⟩
 have h3:=(h2 j (by simpa using hj)).1
 simpa [List.getD,hj] using h3
theorem FN.mono {B B':Nat} {w:World} {v:Value} {zs:List Int} (h:FN B w v zs) (hB:B'≤B):FN B' w v zs:=by
 obtain⟨p,c,hv,hc,h⟩:=h
 exact⟨p,c,hv,hc,h.imp id (by rintro⟨b,off,hp,h1,h2⟩;exact⟨b,off,hp,by omega,h2⟩)⟩
theorem FN.nil (B:Nat) (w:World) (p:Option Addr) (c:Nat):FN B w (.slice p 0 c) []:=⟨p,c,rfl,Nat.zero_le _,.inl rfl⟩
theorem uO {α:Type} [Inhabited α] (enc:α→Value) (w:World) (B n blk off:Nat) (d:Array α) (os:Array Obj) (hB:B≤blk) (hw:blk < w.heap.size):Below B w (Sort.grow (Sort.putRow enc (Sort.ahead w n) blk off d) os):=by
 refine⟨rfl,rfl,rfl,by simp,fun k hk=>?_⟩
 rw [Sort.heap_grow_old _ _ (by simp;omega)]
 have:blk≠k:=by omega
 simp [Sort.putRow,Sort.mapBlock,Sort.ahead,Array.getElem?_modify,this]
theorem FN.aN {B e:Nat} {w:World} {v:Value} {zs:List Int} (h:w.ownsRow B e 1 v zs.length (zs.map (Value.int .u16))):FN B w v zs:=by
 rcases h.2 with ⟨rfl,h0⟩ | ⟨g,cap,cur,rfl,hB,hg,hn,hm,hs,ht⟩
 ·exact⟨none,0,by rw [h0],by omega,.inl h0⟩
 refine⟨_,cap,rfl,hn,.inr ⟨g,0,rfl,hB,fun j hj=>?_⟩⟩
 have hj':j < zs.length:=by simpa using hj
 refine⟨?_,by simp [World.frozen?,hg]⟩
 rw [Nat.mul_one] at ht
 have h1:(cur.toList.take zs.length)[j]?=(zs.map (Value.int .u16))[j]?:=by rw [ht]
 rw [List.getElem?_take_of_lt hj'] at h1
 simp only [World.cell?,hg,Nat.zero_add];simp only [Option.isSome_none,Bool.false_eq_true,if_false]
 rw [←Array.getElem?_toList,h1]
 simp [hj']
theorem A_:(Tryz.prog.info? 28).map (fun i=>(i.zero,i.size,i.bytes))=some (some (.int .u16 0),1,2):=by kernel_rfl
theorem GQ (B:Nat) (v:Value) (zs:List Int) (w:World) (h:FN B w v zs) (hB:B≤w.heap.size) (hsz:zs.length < 4611686018427387904) :
  Calls Tryz.prog 92 #[v] w fun e w'=>e=.returned (.tuple #[])∧FN B w' v (zs.mergeSort fun x y=>decide (x≤y))∧Below B w w':=by
 obtain⟨p,c,rfl,hc,h⟩:=h
 have hl:(zs.mergeSort fun x y=>decide (x≤y)).length=zs.length:=by simp
 rcases h with h | ⟨b,off,rfl,hb,hH⟩
 ·rw [h]
  refine (nS p c w).mono ?_
  rintro e w' ⟨rfl,rfl⟩
  exact⟨rfl,⟨p,c,by rw [hl,h],by omega,.inl (by omega)⟩,Below.refl _ _⟩
 by_cases h0:zs.length=0
 ·rw [h0]
  refine (nS _ c w).mono ?_
  rintro e w' ⟨rfl,rfl⟩
  exact⟨rfl,⟨_,c,by rw [hl,h0],by omega,.inl (by omega)⟩,Below.refl _ _⟩
 have hblk:b < w.heap.size:=block_lt_of_cell? w _ (hH 0 (by simp;omega)).1
 refine (yD b off c zs w hH hblk hsz).mono ?_
 rintro e w' ⟨rfl,n,os,rfl⟩
 refine⟨rfl,⟨_,c,by rw [hl],by omega,.inr ⟨b,off,rfl,hb,?_⟩⟩,uO _ _ _ _ _ _ _ _ hb hblk⟩
 refine Sort.holds_grow _ _ _ _ _ _ (by simpa using hblk) ?_
 exact Sort.holds_putRow _ _ _ _ zs.toArray _ (Sort.holds_ahead _ _ _ _ _ _ hH) (by simp)
theorem nX {P:Program} (w:World) (base:Nat) (t ty e:TypeId) (i:TypeInfo) (size:Nat) (ht:P.underlying t=some (.slice e)) (hi:P.info? e=some i)
  (v:Value) (n:Nat) (xs:List Value) (hown:w.ownsRow base e size v n xs) (A:Option Addr) (c:Nat):(Builtin.append_ #[t,t] ty #[v,.slice A 0 c]).run P w=.ok v w:=by
 rcases hown.2 with ⟨rfl,rfl⟩ | ⟨g,cap,cur,rfl,_,_,hnc,_⟩
 ·cases A<;>simp [Builtin.append_,run_underlying ht,sizeOf,typeInfo,hi,Builtin.lenOf,Builtin.firstCells,loadCells,loadCellsFrom]
 cases A<;>simp [Builtin.append_,run_underlying ht,sizeOf,typeInfo,hi,Builtin.lenOf,Builtin.firstCells,hnc,storeCells,loadCells,loadCellsFrom]
theorem eF {P:Program} (w:World) (base:Nat) (t ty e:TypeId) (i:TypeInfo) (z:Value) (size bytes:Nat) (ht:P.underlying t=some (.slice e)) (hi:P.info? e=some i) (hz:i.zero=some z)
  (hsize:i.size=size) (hby:i.bytes=bytes) (hzs:z.cells.size=size) (hsz:0 < size)
  (v:Value) (n:Nat) (xs:List Value) (hown:w.ownsRow base e size v n xs)
  (A:Option Addr) (m c:Nat) (news:List Value) (hl:news.length=m*size) (hr:m=0∨∃ad,A=some ad∧∀j u,news[j]?=some u→w.cell? (ad.add j)=some u) (h1:∀u∈news,u.oneCell'=true)
  (h63:n+m≤maxLen) (hbytes:(n+m)*bytes≤140737488355328) (hbase:base≤w.heap.size) :
  ∃v' w',(Builtin.append_ #[t,t] ty #[v,.slice A m c]).run P w=.ok v' w'∧w'.ownsRow base e size v' (n+m) (xs++news)∧w.grownBy w' v.ownBlock∧(v'.ownBlock=v.ownBlock∨v'.ownBlock=some w.heap.size):=by
 rcases Nat.eq_zero_or_pos m with h0 | h0
 ·subst h0
  have hn:news=[]:=List.eq_nil_of_length_eq_zero (by simpa using hl)
  subst hn
  exact⟨v,w,nX w base t ty e i size ht hi v n xs hown A c,by simpa using hown,World.grownBy.refl w _,.inl rfl⟩
 obtain⟨ad,rfl,hc⟩:=hr.resolve_left (by omega)
 obtain⟨v',w',hrun,h2,h3,_,h5⟩:=run_append_own_at (P:=P) w base t ty e i z size bytes ht hi hz hsize hby hzs hsz v n xs hown ad m c news hl hc h1 h63 hbytes hbase
 exact⟨v',w',hrun,h2,h3,h5⟩
theorem FS.news {w:World} {p:Option Addr} {zs:List Int} (hs:zs.length=0∨∃b off,p=some ⟨b,off,none⟩∧∀j,j < zs.length→w.cell? ⟨b,off+j,none⟩=some (.int .u16 (zs.getD j 0))) (w':World) (hb:Below w.heap.size w w') :
  zs.length=0∨∃ad,p=some ad∧∀j u,(zs.map (Value.int .u16))[j]?=some u→w'.cell? (ad.add j)=some u:=by
 refine hs.imp id ?_
 rintro⟨b,off,rfl,hc⟩
 refine⟨_,rfl,fun j u hj=>?_⟩
 have hlt:j < zs.length:=by
  have:=(List.getElem?_eq_some_iff.1 hj).1
  simpa using this
 have h1:=hc j hlt;rw [Addr.add_lit];rw [(hb.cell (block_lt_of_cell? w _ h1)).trans h1];rw [←hj];simp [List.getD,hlt]
theorem yE {P:Program} (w:World) (base:Nat) (t ty e:TypeId) (i:TypeInfo) (z:Value) (bytes:Nat) (ht:P.underlying t=some (.slice e)) (hi:P.info? e=some i) (hz:i.zero=some z)
  (hsize:i.size=1) (hby:i.bytes=bytes) (hzs:z.cells.size=1) (g:Nat) (hown:w.ownsRow base e 1 (.slice (some ⟨g,0,none⟩) 0 0) 0 []) (hbase:base≤w.heap.size)
  (A:Option Addr) (m c:Nat) (news:List Value) (hl:news.length=m) (hr:m=0∨∃ad,A=some ad∧∀j u,news[j]?=some u→w.cell? (ad.add j)=some u)
  (h63:m≤maxLen) (hbytes:m*bytes≤281474976710656) :
  ∃v' w',(Builtin.append_ #[t,t] ty #[.slice (some ⟨g,0,none⟩) 0 0,.slice A m c]).run P w=.ok v' w'∧w'.ownsRow base e 1 v' m news∧Below w.heap.size w w':=by
 rcases Nat.eq_zero_or_pos m with h0 | h0
 ·subst h0
  have hn:news=[]:=List.eq_nil_of_length_eq_zero hl
  subst hn
  exact⟨_,w,nX w base t ty e i 1 ht hi _ 0 [] hown A c,hown,Below.refl _ _⟩
 obtain⟨ad,rfl,hc⟩:=hr.resolve_left (by omega)
 have hrun:=run_append_grow (P:=P) w t ty e i z ht hi hz ⟨g,0,none⟩ 0 0 [] (by simp) (by simp) ad m c news (by rw [hsize];omega) hc (by omega) (by simp only [maxLen] at h63;omega) (by rw [hby,Nat.zero_add,nextslicecap_zero h0];exact hbytes)
 rw [Nat.zero_add] at hrun;have hge:=grownCap_ge w m 0 e
 refine⟨_,_,hrun,?_,((Below.refl _ w).drew).alloc (Nat.le_refl _) _⟩
 refine⟨by omega,.inr ⟨w.heap.size,_,_,rfl,hbase,heap_alloc_new w.drew _,hge,grownCap_le_maxLen w m 0 e h63,?_,?_⟩⟩
 ·simp [size_zeroCells,hzs,hl];omega
 simp [hl]
def IS (w:World) (v:Value) (zs:List Int):Prop :=
 ∃(p:Option Addr) (c:Nat),v=.slice p zs.length c∧zs.length≤c∧(zs.length=0∨∃b off,p=some ⟨b,off,none⟩∧∀j,j < zs.length→w.cell? ⟨b,off+j,none⟩=some (.int .i64 (zs.getD j 0)))
theorem IS.keep {w w':World} {v:Value} {zs:List Int} (h:IS w v zs) (hb:Below w.heap.size w w'):IS w' v zs:=by
 obtain⟨p,c,hv,hc,h⟩:=h
 refine⟨p,c,hv,hc,h.imp id ?_⟩
 rintro⟨b,off,hp,h2⟩
 refine⟨b,off,hp,fun j hj=>?_⟩
 have h3:=h2 j hj
 exact (hb.cell (block_lt_of_cell? w _ h3)).trans h3
theorem IS.aN {B e:Nat} {w:World} {v:Value} {zs:List Int} (h:w.ownsRow B e 1 v zs.length (zs.map (Value.int .i64))):IS w v zs:=by
 rcases h.2 with ⟨rfl,h0⟩ | ⟨g,cap,cur,rfl,hB,hg,hn,hm,hs,ht⟩
 ·exact⟨none,0,by rw [h0],by omega,.inl h0⟩
 refine⟨_,cap,rfl,hn,.inr ⟨g,0,rfl,fun j hj=>?_⟩⟩
 rw [Nat.mul_one] at ht
 have h1:(cur.toList.take zs.length)[j]?=(zs.map (Value.int .i64))[j]?:=by rw [ht]
 rw [List.getElem?_take_of_lt hj] at h1
 simp only [World.cell?,hg,Nat.zero_add];simp only [Option.isSome_none,Bool.false_eq_true,if_false]
 rw [←Array.getElem?_toList,h1]
 simp [hj,List.getD]
theorem Eu:(Tryz.prog.info? 3).map (fun i=>(i.zero,i.size,i.bytes))=some (some (.int .i64 0),1,8):=by kernel_rfl
theorem kR (v:Value) (zs:List Int) (w:World) (h:FS w v zs) (hbig:zs.length*2≤281474976710656) :
  Calls Tryz.prog 40 #[v] w fun e w'=>∃v',e=.returned v'∧FN w.heap.size w' v' zs∧Below w.heap.size w w':=by
 obtain⟨p,c,rfl,hcap,hs⟩:=h
 obtain⟨i0,hi,hz0,hz1,hz2⟩:=info_parts A_
 have qn:∀(w:World) (a:Option Addr) (n c n' c':Nat),(binOp .eql 29 (.slice a n c) (.slice none n' c')).run Tryz.prog w=.ok (.bool a.isNone) w:=fun w a n c n' c'=>run_eql_slice_nil w _ _ a n c n' c' Tryz.underlying29
 have hS:=hid hs;clear hs
 cases p with
 | none =>
  have h0:zs=[]:=List.eq_nil_of_length_eq_zero (hS.out.resolve_right (by rintro⟨b,off,hp,_⟩;cases hp))
  clear hS
  subst h0
  go_enter Tryz.func40,Tryz.ntmps40
  go_wp2
  go_ret
  exact⟨_,rfl,FN.nil _ _ _ _,Below.refl _ _⟩
 | some ad =>
  have hr:=yE (P:=Tryz.prog) (w.alloc (.cells #[] 28)) w.heap.size 29 29 28 i0 (.int .u16 0) 2 Tryz.underlying29 hi hz0 hz1 hz2 rfl w.heap.size (World.ownsRow_made w #[] 0 (Nat.le_refl _) (Nat.zero_le _) rfl) (by simp)
   (some ad) zs.length c (zs.map (Value.int .u16)) (by simp) (FS.news hS.out _ ((Below.refl _ w).alloc (Nat.le_refl _) _)) (by unfold maxLen;omega) hbig
  obtain⟨v',w1,hrun,hown,hg⟩:=hr;have HR:=hid hrun;have HO:=hid hown;have HG:=hid hg;clear hrun hown hg hS
  go_enter Tryz.func40,Tryz.ntmps40
  go_wp2_with (at_builtin;refine wpList_append_run _ rfl _ _ _ _ rfl _ _ rfl rfl _ _ HR.o ?_)
  go_ret
  refine⟨v',rfl,FN.aN (e:=28) HO.o,?_⟩
  exact ((Below.refl _ w).alloc (Nat.le_refl _) _).trans (HG.o.mono (by simp))
def CW (w:World) (b off n:Nat) (dk:Array Int):World:=Sort.putRow (Value.int .u16) (Sort.ahead w n) b off dk
theorem CW.store {w:World} {b off n:Nat} {dk:Array Int} (m i:Nat) (hi:i < dk.size) (x:Int):((CW w b off n dk).drewN m).setCell ⟨b,off+i,none⟩ (.int .u16 x)=CW w b off (n+m) (dk.setIfInBounds i x):=by
 unfold CW
 rw [putRow_drewN]
 exact Sort.putRow_set (Value.int .u16) (Sort.ahead w (n+m)) b off dk i x hi
theorem CW.more {w wr:World} {b off n:Nat} {dk:Array Int} (h:wr=CW w b off n dk) (m:Nat):wr.drewN m=CW w b off (n+m) dk:=by
 subst h
 exact putRow_drewN _ _ _ _ _ _ _
theorem CW.set {w wr:World} {b off n:Nat} {dk:Array Int} (h:wr=CW w b off n dk) (m i:Nat) (hi:i < dk.size) (x:Int):(wr.drewN m).setCell ⟨b,off+i,none⟩ (.int .u16 x)=CW w b off (n+m) (dk.setIfInBounds i x):=by
 subst h
 exact CW.store m i hi x
theorem CW.set' {w wr:World} {b off n:Nat} {dk:Array Int} (h:wr=CW w b off n dk) (m i:Nat) (hi:i < dk.size) (x:Int):(wr.setCell ⟨b,off+i,none⟩ (.int .u16 x)).drewN m=CW w b off (n+m) (dk.setIfInBounds i x):=CW.set h m i hi x
theorem CW.start {w:World} {b off:Nat} {d:Array Int} (n:Nat) (h:Sort.Holds (Value.int .u16) w b off d):w.drewN n=CW w b off n d:=(Sort.putRow_self _ _ _ _ _ (Sort.holds_ahead _ w n b off d h)).symm
theorem CW.holds {w:World} {b off:Nat} {d dk:Array Int} (n:Nat) (h:Sort.Holds (Value.int .u16) w b off d) (hs:dk.size=d.size):Sort.Holds (Value.int .u16) (CW w b off n dk) b off dk:=Sort.holds_putRow _ _ _ _ d dk (Sort.holds_ahead _ w n b off d h) hs
theorem yF (b off c:Nat) (d:Array Int) (w:World) (hH:Sort.Holds (Value.int .u16) w b off d) (hsz:d.size≤4611686018427387904) (hcap:d.size≤c) :
  Calls Tryz.prog 93 #[.slice (some ⟨b,off,none⟩) d.size c] w fun e w' =>
   ∃(n:Nat) (dk:Array Int),e=.returned (.slice (some ⟨b,off,none⟩) (Lib.compactUpTo d d.size).length c)∧w'=CW w b off n dk∧dk.size=d.size∧∀j,j < (Lib.compactUpTo d d.size).length→(Lib.compactUpTo d d.size)[j]?=some dk[j]!:=by
 have HH:=hid hH
 have hall:∀n,(∀j,j < d.size→Lib.keeps d j=true)→(Lib.compactUpTo d d.size).length=d.size∧w.drewN n=CW w b off n d∧∀j,j < (Lib.compactUpTo d d.size).length→(Lib.compactUpTo d d.size)[j]?=some d[j]!:=by
  intro n hk
  have e:Lib.compactUpTo d d.size=d.toList:=by rw [Lib.compactUpTo_all d _ hk,Lib.range_map_get]
  rw [e]
  exact⟨by simp,CW.start n hH,fun j hj=>by simp at hj;simp [hj,getElem!_pos]⟩
 have HA:=hid hall;clear hall hH
 by_cases h2:d.size < 2
 ·go_enter Tryz.func93,Tryz.ntmps93
  go_wp2
  go_ret
  obtain⟨e1,e2,e3⟩:=HA.o 0 (fun j hj=>Lib.keeps_lt_one d j (by omega))
  exact⟨0,d,by rw [e1];rfl,e2,rfl,e3⟩
 go_enter Tryz.func93,Tryz.ntmps93
 go_wp2
 go_loopw [3] (fun i wr=>∃k n:Nat,1≤k∧k≤d.size∧i=.int .i64 k∧wr=w.drewN n∧Hid (∀j,j < k→Lib.keeps d j=true)) (fun i _=>d.size - (intOf i).toNat)
 case atStart=>exact⟨1,0,Nat.le_refl _,by omega,rfl,rfl,Lib.keeps_lt_one d⟩
 case round =>
 obtain⟨k,n,hk1,hk,rfl,rfl,HK⟩:=hrel
 by_cases hlt:k < d.size
 ·obtain⟨c1,-⟩:=HH.o k hlt
  obtain⟨c0,-⟩:=HH.o (k - 1) (by omega)
  generalize hx:d[k]! = x at c1
  generalize hy:d[k - 1]! = y at c0
  have HX:=hid hx;have HY:=hid hy;clear hx hy
  cases hq:(x==y)
  ·have hkp:=hid (Lib.keeps_pos (d:=d) (m:=k) (by rw [HX.o,HY.o];simpa using hq))
   go_wp2_with fail
   go_quiet (fail)
   go_wp2
   go_roundw
   case rel=>exact⟨k+1,_,by omega,by omega,by go_num,rfl,fun j hj=>(by
    by_cases e:j=k
    ·subst e;exact hkp.out
    exact HK.o j (by omega))⟩
   case measure=>simp [intOf];omega
  have hkn:=hid (Lib.keeps_neg (d:=d) (m:=k) (by omega) (by rw [HX.o,HY.o];simpa using hq))
  go_wp2_with fail
  go_quiet (fail)
  go_wp2
  clear c0 c1
  go_loopw [3,5] (fun i i2 wr=>∃(kk k2 n2:Nat) (dk:Array Int),i=.int .i64 kk∧i2=.int .i64 k2∧1≤k2∧k+k2≤d.size∧Hid (wr=CW w b off n2 dk)∧Hid (Lib.CompInv d (k+k2) kk dk)) (fun _ i2 _=>d.size - (k+(intOf i2).toNat))
  case atStart=>exact⟨k,1,_,d,rfl,rfl,Nat.le_refl _,by omega,CW.start _ HH.o,Lib.CompInv.start HK.o hkn.out⟩
  case round =>
  obtain⟨kk,k2,n2,dk,rfl,rfl,h1,hle,HW,HI⟩:=hrel
  have hkk:=HI.o.lt;have hds:=HI.o.size
  have hHk:Sort.Holds (Value.int .u16) wr b off dk:=by rw [HW.o];exact CW.holds _ HH.o hds
  have Wp:=hid hHk;clear hHk
  by_cases hlt2:k+k2 < d.size
  ·obtain⟨cm,-⟩:=Wp.o (k+k2) (by omega)
   obtain⟨cp,-⟩:=Wp.o (k+k2 - 1) (by omega)
   obtain⟨ck,fk⟩:=Wp.o kk (by omega)
   rw [HI.o.high (k+k2) (by omega),show off+(k+k2)=off+k+k2 by omega] at cm
   rw [HI.o.high (k+k2 - 1) (by omega),show off+(k+k2 - 1)=off+k+(k2 - 1) by omega] at cp
   generalize hu:d[k+k2]! = u at cm
   generalize hv:d[k+k2 - 1]! = v at cp
   generalize dk[kk]! = old at ck
   have HU:=hid hu;have HV:=hid hv;clear hu hv
   cases hq2:(u==v)
   ·have hkp:=hid (Lib.keeps_pos (d:=d) (m:=k+k2) (by rw [HU.o,HV.o];simpa using hq2))
    go_wp2_with fail
    go_quiet (fail)
    go_wp2
    go_roundw
    case rel=>exact⟨kk+1,k2+1,_,dk.setIfInBounds kk u,by go_num,by go_num,by omega,by omega,CW.set' HW.o _ kk (by omega) u,by have:=HI.o.keep hlt2 hkp.out;rwa [HU.o] at this⟩
    case measure=>simp [intOf];omega
   have hkn2:=hid (Lib.keeps_neg (d:=d) (m:=k+k2) (by omega) (by rw [HU.o,HV.o];simpa using hq2))
   go_wp2_with fail
   go_quiet (fail)
   go_wp2
   go_roundw
   case rel=>exact⟨kk,k2+1,_,dk,rfl,by go_num,by omega,by omega,CW.more HW.o _,HI.o.skip hkn2.out⟩
   case measure=>simp [intOf];omega
  have hend:k+k2=d.size:=by omega
  have hcl:∀ty,(Builtin.clear_ #[29] ty #[.slice (some ⟨b,off+kk,none⟩) (d.size - kk) (c - kk)]).run Tryz.prog wr=.ok (.tuple #[]) (wr.setCells b (off+kk) (List.replicate (d.size - kk) (.int .u16 0))) :=
   fun ty=>Lib.run_clear_slice wr _ _ ty _ Tryz.underlying29 Tryz.zeroValue28 rfl rfl b (off+kk) _ _ (by omega) (fun j hj=>by rw [show off+kk+j=off+(kk+j) by omega,(Wp.o (kk+j) (by omega)).1];rfl) (fun j hj=>by rw [show off+kk+j=off+(kk+j) by omega];exact (Wp.o (kk+j) (by omega)).2)
  go_wp2
  go_ret
  have hI:=HI.o;rw [hend] at hI
  refine⟨n2,(Lib.compactUpTo d d.size++List.replicate (d.size - kk) 0).toArray,by rw [hI.len];rfl,?_,by have:=hI.len;simp;omega,fun j hj=>?_⟩
  ·rw [←hI.done 0,HW.o]
   have:=Lib.putRow_setCells (Value.int .u16) (Sort.ahead w n2) b off (List.replicate (d.size - kk) (0:Int)) dk kk (by simp;omega)
   rw [List.map_replicate] at this
   exact this
  simp [hj,List.getElem?_append_left hj]
 have hke:k=d.size:=by omega
 subst hke
 go_wp2
 go_ret
 obtain⟨e1,e2,e3⟩:=HA.o n HK.o
 exact⟨n,d,by rw [e1];rfl,e2,rfl,e3⟩
theorem NA {w:World} {B b off n:Nat} {dk:Array Int} (hB:B≤b) (hb:b < w.heap.size):Below B w (CW w b off n dk):=by
 have h:=uO (Value.int .u16) w B n b off dk #[] hB hb
 rwa [Sort.grow_empty] at h
theorem GR (B:Nat) (v:Value) (zs:List Int) (w:World) (h:FN B w v zs) (hsz:zs.length≤4611686018427387904) :
  Calls Tryz.prog 93 #[v] w fun e w'=>∃v',e=.returned v'∧FN B w' v' (Lib.compact zs)∧Below B w w':=by
 obtain⟨p,c,rfl,hc,h⟩:=h
 have he:∀(q:Option Addr),zs.length=0→Calls Tryz.prog 93 #[.slice q zs.length c] w fun e w'=>∃v',e=.returned v'∧FN B w' v' (Lib.compact zs)∧Below B w w':=by
  intro q h0
  have:zs=[]:=List.eq_nil_of_length_eq_zero h0
  subst this
  clear h
  go_enter Tryz.func93,Tryz.ntmps93
  go_wp2
  go_ret
  exact⟨_,rfl,FN.nil _ _ _ _,Below.refl _ _⟩
 rcases h with h | ⟨b,off,rfl,hb,hH⟩
 ·exact he p h
 by_cases h0:zs.length=0
 ·exact he _ h0
 have hblk:b < w.heap.size:=block_lt_of_cell? w _ (hH 0 (by simp;omega)).1
 have hC:=yF b off c zs.toArray w hH (by simpa using hsz) (by simpa using hc)
 rw [List.size_toArray] at hC
 refine hC.mono ?_
 rintro e w' ⟨n,dk,rfl,rfl,hs,hlow⟩
 have hle:(Lib.compactUpTo zs.toArray zs.length).length≤zs.length:=by
  unfold Lib.compactUpTo
  rw [List.length_map]
  exact Nat.le_trans (List.length_filter_le _ _) (by simp)
 have hHd:=CW.holds n hH hs
 have hs':dk.size=zs.length:=by simpa using hs
 refine⟨_,rfl,⟨_,c,rfl,by have:(Lib.compact zs).length≤zs.length:=hle;omega,.inr ⟨b,off,rfl,hb,fun j hj=>?_⟩⟩,NA hb hblk⟩
 have hj':j < (Lib.compactUpTo zs.toArray zs.length).length:=by simpa [Lib.compact] using hj
 obtain⟨h1,h2⟩:=hHd j (by omega)
 refine⟨?_,h2⟩
 rw [h1];have h3:=hlow j hj'
 have h4:(Lib.compact zs).toArray[j]! = dk[j]!:=by
  have:(Lib.compact zs)[j]?=some dk[j]!:=h3
  obtain⟨h5,h6⟩:=List.getElem?_eq_some_iff.1 this
  rw [getElem!_pos (Lib.compact zs).toArray j (by simpa using h5)]
  simpa using h6
 rw [h4]
def canon (zs:List Int):List Int:=Lib.compact (zs.mergeSort fun x y=>decide (x≤y))
theorem Ru (v:Value) (zs:List Int) (w:World) (h:FS w v zs) (hbig:zs.length*2≤281474976710656) :
  Calls Tryz.prog 64 #[v] w fun e w'=>∃v',e=.returned v'∧FN w.heap.size w' v' (canon zs)∧Below w.heap.size w w':=by
 have hF:=hid h
 obtain⟨p,c,rfl,hcap,-⟩:=h
 go_enter Tryz.func64,Tryz.ntmps64
 go_wp2_with (go_at_call 40;refine (kR _ zs _ hF.out hbig).mono ?_;rintro e w1 ⟨v1,rfl,h1,b1⟩)
 have H1:=hid h1;have B1:=hid b1;have hs1:=b1.size;clear h1 b1
 go_wp2_with (go_at_call 92;refine (GQ w.heap.size _ zs _ H1.o hs1 (by omega)).mono ?_;rintro e w2 ⟨rfl,h2,b2⟩)
 have H2:=hid h2;have B2:=hid b2;clear h2 b2
 go_wp2_with (go_at_call 93;refine (GR w.heap.size _ _ _ H2.o (by simp;omega)).mono ?_;rintro e w3 ⟨v3,rfl,h3,b3⟩)
 have H3:=hid h3;have B3:=hid b3;clear h3 b3
 go_wp2
 go_ret
 exact⟨v3,rfl,H3.o,B1.out.trans (B2.out.trans B3.out)⟩
theorem NC (v:Value) (zs:List Int) (x:Int) (w:World) (h:FS w v zs) (hbig:zs.length≤9223372036854775807) :
  Calls Tryz.prog 124 #[v,.int .u16 x] w fun e w'=>e=.returned (.int .i64 (Lib.idxOf zs x))∧w'=w:=by
 obtain⟨p,c,rfl,hcap,hs⟩:=h
 have hS:=hid hs;clear hs
 go_enter Tryz.func124,Tryz.ntmps124
 go_wp2
 go_loop [5,8] (fun _ i=>∃k:Nat,k≤zs.length∧i=.int .i64 k∧∀j,j < k→zs.getD j 0≠x) (fun _ i=>zs.length - (intOf i).toNat)
 case atStart=>exact⟨0,Nat.zero_le _,rfl,fun j hj=>absurd hj (Nat.not_lt_zero _)⟩
 case round =>
 obtain⟨k,hk,rfl,hne⟩:=hrel
 have hN:=hid hne;clear hne
 by_cases hlt:k < zs.length
 ·obtain⟨b,off,rfl,hc⟩:=hS.out.resolve_left (by omega)
  have hcell:=hc k hlt
  generalize hz:zs.getD k 0=z at hcell
  clear hc
  cases hq:(x==z)
  ·go_wp2
   go_roundw
   case rel =>
    refine⟨k+1,by omega,by go_num,fun j hj=>?_⟩
    by_cases e:j=k
    ·subst e;rw [hz];intro e;rw [e] at hq;simp at hq
    exact hN.out j (by omega)
   case measure=>simp [intOf];omega
  go_wp2
  go_ret
  have:=Lib.idxOf_hit zs zs.length k x hlt (Nat.le_refl _) (by rw [hz];exact (beq_iff_eq.1 hq).symm) hN.out
  rw [List.take_length] at this
  exact⟨by rw [this];rfl,rfl⟩
 have hke:k=zs.length:=by omega
 subst hke
 go_wp2
 go_ret
 have:=Lib.idxOf_miss zs zs.length x hN.out
 rw [List.take_length] at this
 exact⟨by rw [this];rfl,rfl⟩
theorem Ev (v:Value) (zs:List Int) (x:Int) (w:World) (h:FS w v zs) (hbig:zs.length≤9223372036854775807) :
  Calls Tryz.prog 87 #[v,.int .u16 x] w fun e w'=>e=.returned (.bool (zs.contains x))∧w'=w:=by
 have hb:zs.contains x=decide (0≤Lib.idxOf zs x):=by
  rw [Bool.eq_iff_iff,decide_eq_true_eq,Lib.idxOf_nonneg_iff]
 have hbb:=hid hb;clear hb;have hF:=hid h;obtain⟨p,c,rfl,hcap,-⟩:=h
 go_enter Tryz.func87,Tryz.ntmps87
 go_wp2_with (go_at_call 124;refine (NC _ zs x _ hF.out hbig).mono ?_;rintro e w' ⟨rfl,rfl⟩)
 go_ret
 exact⟨by rw [hbb.out];rfl,rfl⟩
theorem Tq (v:Value) (zs:List Int) (x:Int) (w:World) (h:FS w v zs) (hbig:zs.length≤9223372036854775807) :
  Calls Tryz.prog 51 #[v,.int .u16 x] w fun e w'=>e=.returned (.bool (zs.contains x))∧w'=w:=by
 have hF:=hid h
 obtain⟨q,hq⟩:∃q,zs.contains x=q:=⟨_,rfl⟩;have HQ:=hid hq;rw [hq];clear hq;obtain⟨p,c,rfl,hcap,-⟩:=h
 go_enter Tryz.func51,Tryz.ntmps51
 go_wp2_with (go_at_call 87;refine (Ev _ zs x _ hF.out hbig).mono ?_;rw [HQ.o];rintro e w' ⟨rfl,rfl⟩)
 go_ret
 exact⟨rfl,rfl⟩
theorem GU (zs:List Int):(Lib.compact zs).length≤zs.length:=by
 unfold Lib.compact Lib.compactUpTo
 rw [List.length_map]
 exact Nat.le_trans (List.length_filter_le _ _) (by simp)
theorem ND (zs:List Int):(canon zs).length≤zs.length:=by
 have:=GU (zs.mergeSort fun x y=>decide (x≤y))
 unfold canon
 simpa using this
theorem kG (d:Array Int):∀(m:Nat) (x:Int),x∈Lib.compactUpTo d m↔∃j,j < m∧d[j]! = x
 | 0,x=>by simp [Lib.compactUpTo]
 | m+1,x=>by
   rw [Lib.compactUpTo_succ,List.mem_append,kG d m x]
   constructor
   ·rintro (⟨j,hj,e⟩ | h)
    ·exact⟨j,by omega,e⟩
    ·cases hk:Lib.keeps d m
     ·rw [hk] at h;simp at h
     ·rw [hk] at h;simp at h;exact⟨m,by omega,h.symm⟩
   ·rintro⟨j,hj,e⟩
    by_cases hjm:j=m
    ·subst hjm
     cases hk:Lib.keeps d j
     ·left
      have:¬(j=0∨d[j]! ≠ d[j - 1]!):=by simpa [Lib.keeps] using hk
      exact⟨j - 1,by omega,by
       have h2:d[j]! = d[j - 1]!:=by
        by_cases h3:d[j]! = d[j - 1]!
        ·exact h3
        ·exact absurd (.inr h3) this
       rw [←h2];exact e⟩
     ·right;simp [e]
    ·exact .inl ⟨j,by omega,e⟩
theorem Ew (zs:List Int) (x:Int):x∈Lib.compact zs↔x∈zs:=by
 unfold Lib.compact
 rw [kG]
 constructor
 ·rintro⟨j,hj,rfl⟩
  rw [getElem!_pos zs.toArray j (by simpa using hj)]
  simp
 intro h
 obtain⟨j,hj,rfl⟩:=List.getElem_of_mem h
 exact⟨j,hj,by rw [getElem!_pos zs.toArray j (by simpa using hj)];simp⟩
theorem eU (zs:List Int) (x:Int):x∈canon zs↔x∈zs:=by
 unfold canon
 rw [Ew,List.mem_mergeSort]
theorem contains_iff (zs:List Int) (x:Int):zs.contains x=true↔x∈zs:=by simp
theorem yG {zs:List Int} (hs:zs.Pairwise (·≤·)) {i j:Nat} (hij:i≤j) (hj:j < zs.length):zs.toArray[i]! ≤ zs.toArray[j]!:=by
 rw [getElem!_pos zs.toArray i (by simp;omega),getElem!_pos zs.toArray j (by simpa using hj)]
 simp only [List.getElem_toArray]
 rcases Nat.lt_or_ge i j with h | h
 ·exact List.pairwise_iff_getElem.1 hs i j (by omega) hj h
 obtain rfl:i=j:=by omega
 exact Int.le_refl _
theorem pV (zs:List Int) (hs:zs.Pairwise (·≤·)):∀m,m≤zs.length→(Lib.compactUpTo zs.toArray m).Pairwise (· < ·)
 | 0,_=>by simp [Lib.compactUpTo]
 | m+1,hm=>by
   rw [Lib.compactUpTo_succ,List.pairwise_append]
   refine⟨pV zs hs m (by omega),?_,?_⟩
   ·split<;>simp
   ·intro x hx y hy
    cases hk:Lib.keeps zs.toArray m
    ·rw [hk] at hy;simp at hy
    ·rw [hk] at hy
     obtain rfl:y=zs.toArray[m]!:=by simpa using hy
     obtain⟨j,hj,rfl⟩:=(kG _ _ _).1 hx
     have hk2:m=0∨zs.toArray[m]! ≠ zs.toArray[m - 1]!:=by simpa [Lib.keeps] using hk
     have h1:=yG hs (show j≤m - 1 by omega) (by omega)
     have h2:=yG hs (show m - 1≤m by omega) (by omega)
     rcases hk2 with h | h<;>omega
theorem jk (zs:List Int):(canon zs).Pairwise (· < ·):=by
 refine pV _ ?_ _ (Nat.le_refl _)
 have:=List.pairwise_mergeSort (le:=fun x y:Int=>decide (x≤y)) (by intro a b c;simp;omega) (by intro a b;simp;omega) zs
 exact this.imp (by intro a b h;simpa using h)
theorem yH:∀(a b:List Int),a.Pairwise (· < ·)→b.Pairwise (· < ·)→(∀x,x∈a↔x∈b)→a=b
 | [],[],_,_,_=>rfl
 | [],y::b,_,_,h=>absurd ((h y).2 (by simp)) (by simp)
 | x::a,[],_,_,h=>absurd ((h x).1 (by simp)) (by simp)
 | x::a,y::b,ha,hb,h=>by
   rw [List.pairwise_cons] at ha hb
   have e:x=y:=by
    have h1:=(h x).1 (by simp)
    have h2:=(h y).2 (by simp)
    rw [List.mem_cons] at h1 h2
    rcases h1 with h1 | h1
    ·exact h1
    ·rcases h2 with h2 | h2
     ·exact h2.symm
     ·have:=hb.1 x h1;have:=ha.1 y h2;omega
   subst e
   rw [yH a b ha.2 hb.2 (fun z=>by
    have hz:=h z
    rw [List.mem_cons,List.mem_cons] at hz
    constructor
    ·intro hm
     rcases hz.1 (.inr hm) with rfl | h2
     ·exact absurd (ha.1 z hm) (by omega)
     ·exact h2
    ·intro hm
     rcases hz.2 (.inr hm) with rfl | h2
     ·exact absurd (hb.1 z hm) (by omega)
     ·exact h2)]
theorem Ky {a b:List Int} (h:∀x,x∈a↔x∈b):canon a=canon b :=
 yH _ _ (jk a) (jk b) (fun x=>by rw [eU,eU];exact h x)
theorem GV (a:List Int):canon (canon a)=canon a:=Ky (fun x=>eU a x)
theorem iP:canon []=[]:=by simp [canon,Lib.compact,Lib.compactUpTo]
def kg (last nx x:Int):Int:=if x > last∧(nx < 0∨x < nx) then x else nx
def best (last:Int) (l:List Int):Int:=l.foldl (kg last) (-1)
theorem Ba (last:Int) (l:List Int) (x:Int):best last (l++[x])=kg last (best last l) x:=by
 unfold best;rw [List.foldl_append];rfl
theorem Bb (last:Int) (hl:-1≤last) (l:List Int) (h0:∀x∈l,0≤x):∀k,k≤l.length →
  (best last (l.take k) = -1∧∀x∈l.take k,x≤last)∨(best last (l.take k)∈l∧last < best last (l.take k)∧∀x∈l.take k,last < x→best last (l.take k)≤x)
 | 0,_=>.inl ⟨by simp [best],by simp⟩
 | k+1,hk=>by
   have ih:=Bb last hl l h0 k (by omega)
   have hx:=h0 l[k] (List.getElem_mem (by omega))
   have hm:l[k]∈l:=List.getElem_mem (by omega)
   have e:l.take (k+1)=l.take k++[l[k]]:=by rw [List.take_add_one,List.getElem?_eq_getElem (by omega)];rfl
   rw [e,Ba]
   generalize l[k]=y at *
   generalize best last (l.take k)=b at *
   unfold kg
   rcases ih with ⟨rfl,ih⟩ | ⟨i1,i2,i3⟩
   ·by_cases h:y > last
    ·rw [if_pos ⟨h,.inl (by omega)⟩]
     refine .inr ⟨hm,h,fun x hx' hlx=>?_⟩
     rcases List.mem_append.1 hx' with h' | h'
     ·have:=ih x h';omega
     ·obtain rfl:x=y:=by simpa using h'
      exact Int.le_refl _
    ·rw [if_neg (by omega)]
     refine .inl ⟨rfl,fun x hx'=>?_⟩
     rcases List.mem_append.1 hx' with h' | h'
     ·exact ih x h'
     ·obtain rfl:x=y:=by simpa using h'
      omega
   ·by_cases h:y > last∧(b < 0∨y < b)
    ·rw [if_pos h]
     refine .inr ⟨hm,h.1,fun x hx' hlx=>?_⟩
     rcases List.mem_append.1 hx' with h' | h'
     ·have:=i3 x h' hlx;omega
     ·obtain rfl:x=y:=by simpa using h'
      exact Int.le_refl _
    ·rw [if_neg h]
     refine .inr ⟨i1,i2,fun x hx' hlx=>?_⟩
     rcases List.mem_append.1 hx' with h' | h'
     ·exact i3 x h' hlx
     ·obtain rfl:x=y:=by simpa using h'
      omega
theorem yI (zs:List Int) {i j:Nat} (hi:i < (canon zs).length) (hj:j < (canon zs).length) (h:i < j):(canon zs)[i] < (canon zs)[j] :=
 List.pairwise_iff_getElem.1 (jk zs) i j hi hj h
def lastOf (zs:List Int) (m:Nat):Int:=if m=0 then -1 else (canon zs).getD (m - 1) 0
theorem Kz (zs:List Int) (h0:∀x∈zs,0≤x) (m j:Nat) (hj:j < (canon zs).length):lastOf zs m < (canon zs)[j]∨j < m:=by
 unfold lastOf
 have hp:=h0 _ ((eU _ _).1 (List.getElem_mem hj))
 by_cases hm:m=0
 ·rw [if_pos hm];left;omega
 rw [if_neg hm]
 by_cases hjm:j < m
 ·exact .inr hjm
 left
 have h1:m - 1 < (canon zs).length:=by omega
 have e:(canon zs).getD (m - 1) 0=(canon zs)[m - 1]:=by simp [List.getD,h1]
 rw [e]
 exact yI zs h1 hj (by omega)
theorem GX (zs:List Int) (h0:∀x∈zs,0≤x) (m:Nat) (hm:m≤(canon zs).length):best (lastOf zs m) zs=if m < (canon zs).length then (canon zs).getD m 0 else -1:=by
 have hl:-1≤lastOf zs m:=by
  unfold lastOf
  split
  ·omega
  have h1:m - 1 < (canon zs).length:=by omega
  have e:(canon zs).getD (m - 1) 0=(canon zs)[m - 1]:=by simp [List.getD,h1]
  rw [e]
  have:=h0 _ ((eU _ _).1 (List.getElem_mem h1))
  omega
 have hge:∀j,j < m→∀hj:j < (canon zs).length,(canon zs)[j]≤lastOf zs m:=by
  intro j hjm hj
  unfold lastOf
  rw [if_neg (by omega)]
  have h1:m - 1 < (canon zs).length:=by omega
  have e:(canon zs).getD (m - 1) 0=(canon zs)[m - 1]:=by simp [List.getD,h1]
  rw [e]
  by_cases hjj:j=m - 1
  ·subst hjj;exact Int.le_refl _
  exact Int.le_of_lt (yI zs hj h1 (by omega))
 have hs:=Bb (lastOf zs m) hl zs h0 zs.length (Nat.le_refl _);rw [List.take_length] at hs
 by_cases hmm:m < (canon zs).length
 ·rw [if_pos hmm]
  have e:(canon zs).getD m 0=(canon zs)[m]:=by simp [List.getD,hmm]
  rw [e];have hin:=(eU _ _).1 (List.getElem_mem hmm)
  have hgt:=(Kz zs h0 m m hmm).resolve_right (by omega)
  rcases hs with ⟨_,h2⟩ | ⟨h1,h2,h3⟩
  ·have:=h2 _ hin;omega
  have hle:=h3 _ hin hgt;obtain⟨j,hj,hjb⟩:=List.getElem_of_mem ((eU zs _).2 h1)
  rcases Nat.lt_trichotomy j m with h | h | h
  ·have:=hge j h hj;omega
  ·subst h;exact hjb.symm
  have:=yI zs hmm hj h;omega
 rw [if_neg hmm]
 rcases hs with ⟨h1,_⟩ | ⟨h1,h2,_⟩
 ·exact h1
 obtain⟨j,hj,hjb⟩:=List.getElem_of_mem ((eU zs _).2 h1)
 have:=hge j (by omega) hj
 omega
theorem KA (last:Int) (zs:List Int) (k:Nat) (h:k < zs.length):best last (zs.take (k+1))=kg last (best last (zs.take k)) (zs.getD k 0):=by
 have e:zs.take (k+1)=zs.take k++[zs[k]]:=by rw [List.take_add_one,List.getElem?_eq_getElem h];rfl
 rw [e,Ba];simp [List.getD,h]
theorem Qo (v:Value) (zs:List Int) (w:World) (h:IS w v zs) (h0:∀x∈zs,0≤x∧x≤4611686018427387904) (hbig:zs.length*8≤140737488355328) :
  Calls Tryz.prog 212 #[v] w fun e w'=>∃v',e=.returned v'∧w'.ownsRow w.heap.size 3 1 v' (canon zs).length ((canon zs).map (Value.int .i64))∧Below w.heap.size w w':=by
 obtain⟨i0,hi,hz0,hz1,hz2⟩:=info_parts Eu
 obtain⟨p,c,rfl,hcap,hs⟩:=h;have hS:=hid hs;have hD:=hid h0;have hcl:=ND zs
 have HBC:=hid (GX zs (fun x hx=>(h0 x hx).1))
 clear hs h0
 generalize hN:(canon zs).length=N at *
 have HN:=hid hN;clear hN
 go_enter Tryz.func212,Tryz.ntmps212
 go_wp2
 go_loopg [3,4,5,6] N (fun g s3 s4 _ _ wr=>∃m:Nat,m≤N∧N - m≤g∧s4=.int .i64 (lastOf zs m)∧Hid (wr.ownsRow w.heap.size 3 1 s3 m (((canon zs).take m).map (Value.int .i64)))∧Hid (Below w.heap.size w wr))
 case atStart=>exact⟨0,Nat.zero_le _,by omega,rfl,World.ownsRow_nil _ _ _ _,Below.refl _ _⟩
 case round =>
 obtain⟨m,hm,hg,rfl,HO,HB⟩:=hrel
 have hsz:=HB.o.size
 go_wp2
 go_loopw [5,6] (fun nx i W=>∃k:Nat,k≤zs.length∧i=.int .i64 k∧W=wr∧nx=.int .i64 (best (lastOf zs m) (zs.take k))) (fun _ i _=>zs.length - (intOf i).toNat)
 case atStart=>exact⟨0,Nat.zero_le _,rfl,rfl,rfl⟩
 case round =>
 obtain⟨k,hk,rfl,hW,rfl⟩:=hrel
 subst hW
 by_cases hlt:k < zs.length
 ·obtain⟨b,off,rfl,hc⟩:=hS.out.resolve_left (by omega)
  have c0:=hc k hlt;have hcell:=(HB.o.cell (block_lt_of_cell? w _ c0)).trans c0;have XO:=hid (KA (lastOf zs m) zs k hlt);clear hc c0
  generalize zs.getD k 0=x at *
  generalize best (lastOf zs m) (zs.take k)=nx at *
  generalize lastOf zs m=l at *
  by_cases h1:l < x
  ·by_cases h2:nx < 0
   ·go_wp2
    go_roundw
    case rel=>exact⟨k+1,by omega,by go_num,(by trivial),by rw [XO.o,kg,if_pos ⟨h1,.inl h2⟩]⟩
    case measure=>simp [intOf];omega
   by_cases h3:x < nx
   ·go_wp2
    go_roundw
    case rel=>exact⟨k+1,by omega,by go_num,(by trivial),by rw [XO.o,kg,if_pos ⟨h1,.inr h3⟩]⟩
    case measure=>simp [intOf];omega
   go_wp2
   go_roundw
   case rel=>exact⟨k+1,by omega,by go_num,(by trivial),by rw [XO.o,kg,if_neg (by omega)]⟩
   case measure=>simp [intOf];omega
  go_wp2
  go_roundw
  case rel=>exact⟨k+1,by omega,by go_num,(by trivial),by rw [XO.o,kg,if_neg (by omega)]⟩
  case measure=>simp [intOf];omega
 have hke:k=zs.length:=by omega
 subst hke
 rw [List.take_length];have hb:=HBC.o m hm
 by_cases Zx:m < N
 ·have hlc:m < (canon zs).length:=by rw [HN.o];exact Zx
  rw [if_pos Zx] at hb
  have hcm:(canon zs).getD m 0=(canon zs)[m]:=by simp [List.getD,hlc]
  have hpos:=(hD.out _ ((eU _ _).1 (List.getElem_mem hlc))).1;have hle:=(hD.out _ ((eU _ _).1 (List.getElem_mem hlc))).2;rw [hcm] at hb
  have HM:=hid (show ((canon zs).take (m+1)).map (Value.int .i64)=((canon zs).take m).map (Value.int .i64)++[Value.int .i64 (canon zs)[m]] by rw [List.take_add_one,List.getElem?_eq_getElem hlc,List.map_append];rfl)
  have HL:=hid (show lastOf zs (m+1)=(canon zs)[m] by unfold lastOf;rw [if_neg (by omega),Nat.add_sub_cancel,hcm])
  rw [hb];clear hb hcm
  generalize (canon zs)[m]=y at *
  have hneg:¬y < 0:=by omega
  go_wp2_with (at_builtin;refine aB rfl _ _ 39 rfl w.heap.size 3 i0 (.int .i64 0) 8 Tryz.underlying39 hi hz0 hz1 hz2 rfl _ m _ rfl HO.o _ rfl rfl ?c3 ?c4 hsz ?_)
  case c3=>unfold maxLen;omega
  case c4=>omega
  intro gg cap w2 hown hg2
  have fG:=hid hown;have HB2:=hid (jG HB.o HO.o hg2 (Nat.le_refl _) hsz);clear hown hg2
  go_wp2
  go_roundg (N - (m+1))
  case measure=>omega
  case rel=>exact⟨m+1,by omega,Nat.le_refl _,by rw [HL.o],(by show World.ownsRow _ _ _ _ _ _ _;rw [HM.o,List.map_take];exact fG.o),HB2.o⟩
 have Zy:m=N:=by omega
 subst Zy
 rw [if_neg Zx] at hb;rw [hb]
 go_wp2
 go_ret
 exact⟨_,rfl,(by have:=HO.o;rw [←HN.o,List.take_length] at this;rw [HN.o] at this;exact this),HB.o⟩
def j_ (kind:Int) (l:List UInt8):List Int:=(kV kind l).map (iE kind)
def bS (kind:Int) (l:List UInt8):List Int×Int :=
 if kindOk kind=false then ([],30)
 else if l=[] then ([],31)
 else if (j_ kind l).contains 0=true then ([],31)
 else if 64 < (j_ kind l).length then ([],32)
 else (canon (j_ kind l),0)
theorem numsOf (kind:Int) (s:ByteArray):(bU kind s).map (fun p=>iE kind p.data.toList)=j_ kind s.data.toList:=by
 unfold bU j_
 rw [List.map_map]
 rfl
theorem KC (l:List UInt8):∀cur,∀p∈cgo cur l,p.length≤cur.length+l.length:=by
 induction l with
 | nil=>intro cur p hp;simp [cgo] at hp;subst hp;simp
 | cons b l ih =>
  intro cur p hp
  rw [cgo] at hp
  split at hp
  ·rcases List.mem_cons.1 hp with rfl | hp
   ·simp
   have:=ih [] p hp;simp at this ⊢;omega
  have:=ih _ p hp;simp at this ⊢;omega
theorem yJ (k:Nat):∀(n:Nat) (l:List UInt8),∀p∈chop k n l,p.length≤l.length
 | 0,l,p,hp=>by simp [chop] at hp
 | n+1,l,p,hp=>by
   rw [chop] at hp
   split at hp
   ·simp at hp
   ·rcases List.mem_cons.1 hp with rfl | hp
    ·simp;omega
    ·have:=yJ k n _ p hp;simp at this;omega
theorem yK (kind:Int) (s:ByteArray) (p:ByteArray) (hp:p∈bU kind s):p.size≤s.size:=by
 unfold bU kV at hp
 obtain⟨q,hq,rfl⟩:=List.mem_map.1 hp;rw [aG,←ak s]
 split at hq
 ·have:=KC _ _ q hq;simpa using this
 exact yJ _ _ _ q hq
theorem yL (kind:Int) (l:List UInt8):∀x∈j_ kind l,0≤x∧x≤65535:=by
 intro x hx
 obtain⟨p,_,rfl⟩:=List.mem_map.1 hx
 exact sG kind p
theorem xH (kind:Int) (l:List UInt8):∀x∈(bS kind l).1,0≤x∧x≤65535:=by
 intro x hx
 unfold bS at hx
 split at hx
 ·simp at hx
 split at hx
 ·simp at hx
 split at hx
 ·simp at hx
 split at hx
 ·simp at hx
 exact yL kind l x ((eU _ _).1 hx)
theorem IY (zs:List Int) (h:∀j,j < zs.length→zs.getD j 0≠0):zs.contains 0=false:=by
 cases hq:zs.contains 0
 ·rfl
 obtain⟨j,hj,hjx⟩:=List.getElem_of_mem ((contains_iff _ _).1 hq)
 exact absurd (by simp [List.getD,hj,hjx]) (h j hj)
theorem NG (zs:List Int) (k:Nat) (hk:k < zs.length) (h:zs.getD k 0=0):zs.contains 0=true:=by
 have e:zs.getD k 0=zs[k]:=by simp [List.getD,hk]
 rw [contains_iff,←h,e]
 exact List.getElem_mem hk
theorem zI (zs:List Int) (k:Nat) (h:k < zs.length):(zs.take (k+1)).map (Value.int .u16)=(zs.take k).map (Value.int .u16)++[Value.int .u16 (zs.getD k 0)]:=by
 rw [List.take_add_one,List.getElem?_eq_getElem h,List.map_append]
 simp [List.getD,h]
theorem Cq (kind:Int) (s:ByteArray) (m:Int) (w:World) (hs:s.size≤4194304) (hm:w.cell? ⟨0,0,none⟩=some (.int .i64 m)) :
  Calls Tryz.prog 62 #[.int .i64 kind,.string s] w fun e w'=>∃v',e=.returned (.tuple #[v',.int .i64 (bS kind s.data.toList).2])∧FN w.heap.size w' v' (bS kind s.data.toList).1∧Below w.heap.size w w':=by
 obtain⟨i0,hi,hz0,hz1,hz2⟩:=info_parts A_
 rcases kW kind with ⟨h,hk⟩ | ⟨h,hk⟩
 ·have HK:=hid h
  have HKK:=hid hk;clear h hk
  by_cases h0:s.size=0
  ·have hR:=hid (show bS kind s.data.toList=([],31) by rw [bS,if_neg (by rw [HK.o];decide),if_pos (oK s h0)])
   have he:=CS s h0
   go_enter Tryz.func62,Tryz.ntmps62
   go_wp2_with (go_at_call 89;refine (mJ _ _).mono ?_;rw [HK.o];rintro e w1 ⟨rfl,rfl⟩)
   go_ret2
   exact⟨_,by rw [hR.out];rfl,by rw [hR.out];exact FN.nil _ _ _ _,Below.refl _ _⟩
  have he:=iY s (by omega)
  have HE:=hid (show ¬s.data.toList=[] by intro e;have:=ak s;rw [e] at this;simp at this;omega)
  have HR:=hid (show bS kind s.data.toList=if (j_ kind s.data.toList).contains 0=true then ([],31) else if 64 < (j_ kind s.data.toList).length then ([],32) else (canon (j_ kind s.data.toList),0) by rw [bS,if_neg (by rw [HK.o];decide),if_neg HE.o])
  have Qp:=numsOf kind s
  have TA:=fun p hp=>yK kind s p hp
  have hln:=ny kind s.data.toList;rw [ak] at hln
  have hnl:(j_ kind s.data.toList).length=(bU kind s).length:=by rw [←Qp];simp
  rw [←oO] at hln
  generalize hzs:j_ kind s.data.toList=zs at *
  have HZS:=hid hzs;clear hzs;obtain⟨ss,hss⟩:∃ss,bU kind s=ss:=⟨_,rfl⟩;have Zz:=hid hss;rw [hss] at Qp TA hln hnl;have ZA:=hid Qp;have ZB:=hid TA;clear Qp TA hss h0
  generalize hr:bS kind s.data.toList=r at *
  have zx:=hid hr;clear hr
  go_enter Tryz.func62,Tryz.ntmps62
  go_wp2_with (first
   | (go_at_call 89;refine (mJ _ _).mono ?_;rw [HK.o];rintro e w1 ⟨rfl,rfl⟩)
   | (go_at_call 90;refine (Jk kind s m _ HKK.o hs hm).mono ?_;rw [Zz.o];rintro e w1 ⟨v1,rfl,⟨hl1,A,cap,rfl,hcap,hcells⟩,b1⟩;have HC:=hid hcells;have B1:=hid b1;clear hl1 hcells b1))
  have hs1:=B1.out.size
  go_loopw [6,8,9,19] (fun o _ _ i wr=>∃k:Nat,k≤ss.length∧i=.int .i64 k∧Hid (∀j,j < k→zs.getD j 0≠0)∧Hid (Own w1 wr 28 1 o k ((zs.take k).map (Value.int .u16)))) (fun _ _ _ i _=>ss.length - (intOf i).toNat)
  case atStart=>exact⟨0,Nat.zero_le _,rfl,(fun j hj=>absurd hj (Nat.not_lt_zero _)),Own.fP _ _ _⟩
  case round =>
  obtain⟨k,hkk,rfl,HN,HO⟩:=hrel
  have hsz:=HO.o.size
  by_cases hlt:k < ss.length
  ·obtain⟨g,o,rfl,hc⟩:=HC.o.resolve_left (by omega)
   have c0:=hc k (.string ss[k]) (iX ss k hlt);have hcell:=(HO.o.below.cell (block_lt_of_cell? w1 _ c0)).trans c0;have hps:=ZB.o ss[k] (List.getElem_mem hlt)
   have hkz:k < zs.length:=by omega
   have hz:zs.getD k 0=iE kind ss[k].data.toList:=by
    have:=ZA.o
    simp only [←this,List.getD,List.getElem?_map,List.getElem?_eq_getElem hlt]
    rfl
   have HM:=hid (zI zs k hkz)
   have hpm:ss[k].size≤maxLen:=by unfold maxLen;omega
   have hbd:=sG kind ss[k].data.toList;clear hc c0 hps
   generalize ss[k]=p at *
   by_cases hq:iE kind p.data.toList=0
   ·have hfin:=hid (show r=([],31) by rw [HR.o,if_pos (NG zs k hkz (by rw [hz,hq]))])
    have HQ:=hid hq;clear hq hz hbd
    go_wp2_with (go_at_call 91;refine (ql kind p _ HKK.o hpm).mono ?_;rw [HQ.o];rintro e w2 ⟨rfl,n,rfl⟩)
    go_ret2
    exact⟨_,by rw [hfin.out];rfl,by rw [hfin.out];exact FN.nil _ _ _ _,B1.out.trans (below_drewN (HO.o.below.mono hs1) n)⟩
   obtain⟨x,hx⟩:∃x,iE kind p.data.toList=x:=⟨_,rfl⟩;have HX:=hid hx;rw [hx] at hq hz hbd;obtain⟨b0,b1⟩:=hbd
   have hne:(x==0)=false:=by rw [beq_eq_false_iff_ne];exact hq
   have HZ:=hid hz;clear hx hq hz
   go_wp2_with (first
    | (go_at_call 91;refine (ql kind p _ HKK.o hpm).mono ?_;rw [HX.o];rintro e w2 ⟨rfl,n,hw2⟩;have fG:=hid (show Own w1 w2 _ _ _ _ _ by rw [hw2];exact HO.o.drewN n);clear hw2)
    | (at_builtin;refine aB rfl _ _ 29 rfl w1.heap.size 28 i0 (.int .u16 0) 2 Tryz.underlying29 hi hz0 hz1 hz2 rfl _ k _ rfl fG.o.own _ rfl rfl (by unfold maxLen;omega) (by omega) fG.o.size ?_;intro gg cap2 w5 hown hg5;have tZ:=hid (fG.o.push hown hg5);clear hown hg5))
   go_roundw
   case rel =>
    refine⟨k+1,by omega,by go_num,(fun j hj=>?_),hid (by rw [HM.o,HZ.o];exact tZ.o)⟩
    by_cases e:j=k
    ·subst e;rw [HZ.o];intro e;rw [e] at hne;simp at hne
    exact HN.o j (by omega)
   case measure=>simp [intOf];omega
  have hke:k=ss.length:=by omega
  subst hke
  have hno:=IY zs (fun j hj=>HN.o j (by omega))
  rw [←hnl,List.take_length] at HO;have tZ:=hid (FN.aN (e:=28) HO.o.own);rw [←hnl] at hlt hln ⊢;have hv:=tZ.o;obtain⟨p9,c9,rfl,-⟩:=hv;have ZC:=hid hnl;clear hnl
  by_cases h64:64 < zs.length
  ·have hfin:=hid (show r=([],32) by rw [HR.o,if_neg (by rw [hno];decide),if_pos h64])
   go_wp2
   go_ret2
   exact⟨_,by rw [hfin.out];rfl,by rw [hfin.out];exact FN.nil _ _ _ _,B1.out.trans (HO.o.below.mono hs1)⟩
  have hfin:=hid (show r=(canon zs,0) by rw [HR.o,if_neg (by rw [hno];decide),if_neg h64])
  have Wq:¬(64:Int) < (zs.length:Int):=by omega
  go_wp2_with (go_at_call 64;refine (Ru _ zs _ tZ.o.fs (by omega)).mono ?_;rintro e w2 ⟨v2,rfl,h2,b2⟩;have H2:=hid h2;have B2:=hid b2;clear h2 b2)
  go_ret2
  exact⟨_,by rw [hfin.out];rfl,by rw [hfin.out];exact H2.o.mono (Nat.le_trans hs1 hsz),(B1.out.trans (HO.o.below.mono hs1)).trans (B2.out.mono (Nat.le_trans hs1 hsz))⟩
 have HK:=hid h
 have hR:=hid (show bS kind s.data.toList=([],30) by rw [bS,if_pos h])
 clear h hk
 go_enter Tryz.func62,Tryz.ntmps62
 go_wp2_with (go_at_call 89;refine (mJ _ _).mono ?_;rw [HK.o];rintro e w1 ⟨rfl,rfl⟩)
 go_ret2
 exact⟨_,by rw [hR.out];rfl,by rw [hR.out];exact FN.nil _ _ _ _,Below.refl _ _⟩
theorem fE:(Tryz.prog.info? 5).map (fun i=>(i.zero,i.size,i.bytes))=some (some (.int .u8 0),1,1):=by kernel_rfl
theorem eD (l:List UInt8) (b:UInt8):byteCells l++[Value.int .u8 (b.toNat:Int)]=byteCells (l++[b]):=by simp [byteCells]
def IZ (B b:Nat) (bs:List Value) (w:World):Prop:=Lib.IsBuilder 215 5 B b bs w
def Wt (B b:Nat) (bs:List Value) (w:World):Prop:=Lib.BuilderAt 215 5 B b (.pointer (some ⟨b,0,none⟩)) bs w
theorem Wt.is {B b:Nat} {bs:List Value} {w:World} (h:Wt B b bs w):IZ B b bs w:=.inr h
theorem tK:(Tryz.prog.info? 215).map (fun i=>(i.zero,i.size,i.bytes))=some (some (.agg #[.pointer none,.slice none 0 0]),2,32):=by kernel_rfl
theorem Cr:liesAt Tryz.prog Tryz.prog.depth 215 (2 / Tryz.prog.cellsOf 215) 0 215 1=true:=by kernel_rfl
theorem yM (b:Nat) (w:World) (h0:w.cell? ⟨b,0,none⟩=some (.pointer (some ⟨b,0,none⟩))) :
  Calls Tryz.prog 154 #[.pointer (some ⟨b,0,none⟩)] w fun e w'=>e=.returned (.tuple #[])∧w'=w:=by
 obtain⟨i0,hi,hz0,hz1,hz2⟩:=info_parts tK
 go_enter Tryz.func154,Tryz.ntmps154
 go_wp2
 rw [Lib.run_neq_ptr_same w _ Tryz.underlying212 hi]
 go_wp2
 go_end0
 exact⟨rfl,rfl⟩
theorem vX (b:Nat) (w:World) (h0:w.cell? ⟨b,0,none⟩=some (.pointer none)) (hsh:w.shape? b=some (215,2)) (hfz:w.frozen? ⟨b,0,none⟩=false) :
  Calls Tryz.prog 154 #[.pointer (some ⟨b,0,none⟩)] w fun e w'=>e=.returned (.tuple #[])∧w'=w.setCell ⟨b,0,none⟩ (.pointer (some ⟨b,0,none⟩)):=by
 obtain⟨i0,hi,hz0,hz1,hz2⟩:=info_parts tK
 go_enter Tryz.func154,Tryz.ntmps154
 go_wp2
 rw [Lib.run_to_unsafe w ⟨b,0,none⟩ Tryz.underlying212 Tryz.underlying279 hi (by rw [hz1];decide) hsh (Nat.zero_lt_succ 1)]
 simp only [Result.andThen];rw [Oper.upon_value]
 go_wp2
 rw [run_callFunc_extern Tryz.func189 (by kernel_rfl) (by kernel_rfl) (by kernel_rfl) (e:=Extern.AbiNoEscape.same) (by kernel_rfl)]
 rw [Lib.run_noEscape];simp only [Result.andThen];rw [Oper.upon_value]
 go_wp2
 rw [Lib.run_from_unsafe w ⟨b,0,none⟩ Tryz.underlying279 Tryz.underlying212 hi hsh Cr];simp only [Result.andThen];rw [Oper.upon_value]
 go_wp2
 go_end0
 exact⟨rfl,rfl⟩
theorem zJ (B b:Nat) (bs:List Value) (w:World) (h:IZ B b bs w) :
  Calls Tryz.prog 154 #[.pointer (some ⟨b,0,none⟩)] w fun e w'=>e=.returned (.tuple #[])∧(Wt B b bs w'∧Below B w w'):=by
 rcases h with h | h
 ·refine (vX b w h.cell0 h.shape h.frozen0).mono ?_
  rintro e w' ⟨rfl,rfl⟩
  exact⟨rfl,h.used _,(Below.refl B w).setCell (p:=⟨b,0,none⟩) h.1 _⟩
 refine (yM b w h.cell0).mono ?_
 rintro e w' ⟨rfl,rfl⟩
 exact⟨rfl,h,Below.refl B _⟩
theorem mF (B b:Nat) (bs:List Value) (c:Int) (w:World) (h:IZ B b bs w) (hlen:bs.length+1≤140737488355328) (hBw:B≤w.heap.size) :
  Calls Tryz.prog 121 #[.pointer (some ⟨b,0,none⟩),.int .u8 c] w fun e w'=>e=.returned .nilIface∧(Wt B b (bs++[.int .u8 c]) w'∧Below B w w'):=by
 obtain⟨i0,hi,hz0,hz1,hz2⟩:=info_parts fE
 go_enter Tryz.func121,Tryz.ntmps121
 go_wp2_with (go_at_call 154;refine (zJ B b bs _ h).mono ?_)
 rintro e w1 ⟨rfl,h1,hb1⟩
 obtain⟨hB,v,hbk,hown,hne⟩:=h1
 have c0:w1.cell? ⟨b,0,none⟩=some (.pointer (some ⟨b,0,none⟩)):=by rw [cell_of_heap hbk];rfl
 have c1:w1.cell? ⟨b,1,none⟩=some v:=by rw [cell_of_heap hbk];rfl
 go_wp2_with (at_builtin;refine wpList_append_own _ rfl _ _ 213 rfl B 5 i0 (.int .u8 0) 1 1 Tryz.underlying213 hi hz0 hz1 hz2 rfl (by decide) _ _ _ rfl (hown.alloc _) ⟨w1.heap.size,0,none⟩ 1 1 [.int .u8 c] rfl rfl ?c1 ?c2 ?c3 ?c4 ?c5 ?_)
 case c1 =>
  intro j u hj
  match j,hj with
  | 0,hj=>simp at hj;subst hj;simp [Addr.add]
 case c2=>intro u hu;simp at hu;subst hu;rfl
 case c3=>unfold maxLen;omega
 case c4=>omega
 case c5=>have:=hb1.size;simp;omega
 intro v' w2 hown' hgrow _
 have hlt:b < w1.heap.size:=by
  rcases Nat.lt_or_ge b w1.heap.size with h' | h'
  ·exact h'
  simp [Array.getElem?_eq_none h'] at hbk
 have hb2:w2.heap[b]?=some (.cells #[.pointer (some ⟨b,0,none⟩),v] 215 (0,0)):=by
  rw [hgrow.block b (by simp;omega) (fun e=>hne e.symm),Lib.alloc_old w1 _ b hlt]
  exact hbk
 have d0:w2.cell? ⟨b,0,none⟩=some (.pointer (some ⟨b,0,none⟩)):=by rw [cell_of_heap hb2];rfl
 have d1:w2.cell? ⟨b,1,none⟩=some v:=by rw [cell_of_heap hb2];rfl
 have f1:w2.frozen? ⟨b,1,none⟩=false:=frozen_of_heap hb2 1
 obtain⟨g,cap,rfl⟩:∃g cap,v'=.slice (some ⟨g,0,none⟩) (bs.length+1) cap:=by
  rcases hown'.2 with ⟨_,h0⟩ | ⟨g,cap,cur,hv,_⟩
  ·omega
  exact⟨g,cap,hv⟩
 go_wp2
 go_ret
 refine⟨rfl,?_,?_⟩
 ·exact Lib.BuilderAt.put (T:=215) (e:=5) hB hb2 (bs':=bs++[.int .u8 c]) (by simpa using hown') (by decide)
 exact ((hb1.alloc (by have:=hb1.size;omega) _).grown hgrow (by have:=hb1.size;simp;omega) (fun k hk=>(hown.lt k hk).1)).setCell (p:=⟨b,1,none⟩) hB _
theorem jl (B b:Nat) (l:List UInt8) (w:World) (h:IZ B b (byteCells l) w) (hBw:B≤w.heap.size) :
  Calls Tryz.prog 119 #[.pointer (some ⟨b,0,none⟩)] w fun e w'=>e=.returned (.string ⟨l.toArray⟩)∧Below B w w' :=
 Tryz.Builder_String_any B b l w h hBw
theorem Bc (w:World):IZ w.heap.size w.heap.size [] (w.alloc (.cells #[.pointer none,.slice none 0 0] 215)):=Lib.fresh_isBuilder _ _ w
def lC (b:UInt8):Bool:=decide (32 < b.toNat)&&decide (b.toNat≠127)
theorem Qq (b:UInt8):lC b=(decide (32 < (b.toNat:Int))&&((b.toNat:Int) != 127)):=by
 unfold lC
 rw [Bool.eq_iff_iff];simp;omega
def fitAll (s:ByteArray):Bool:=s.data.toList.all lC
theorem xZ (s:ByteArray) (k:Nat) (h:k < s.size) (hf:lC s[k]=false):fitAll s=false:=by
 unfold fitAll;rw [List.all_eq_false]
 exact⟨s[k],by show s.data[k]∈_;simp,by simp [hf]⟩
theorem pI (s:ByteArray) (k:Nat) (h:k < s.size) (hf:lC s[k]=true) (ht:(s.data.toList.take k).all lC=true):(s.data.toList.take (k+1)).all lC=true:=by
 rw [jF s k h,List.all_append,ht];simp [hf]
theorem pJ (s:ByteArray) (ht:(s.data.toList.take s.size).all lC=true):fitAll s=true:=by
 unfold fitAll;rwa [List.take_of_length_le (by simp)] at ht
theorem tL (b:UInt8) (w:World) :
  Calls Tryz.prog 122 #[.int .u8 b.toNat] w fun e w'=>e=.returned (.bool (lC b))∧w=w':=by
 have H:=hid (Qq b)
 go_enter Tryz.func122,Tryz.ntmps122
 go_wp2
 all_goals go_ret
 all_goals exact⟨bE (by rw [H.o];simp [*]<;>omega),rfl⟩
def nN (s:ByteArray):Bool:=decide (0 < s.size)&&decide (s.size≤64)&&fitAll s
theorem KD (s:ByteArray) (w:World) :
  Calls Tryz.prog 85 #[.string s] w fun e w'=>e=.returned (.bool (nN s))∧w=w':=by
 by_cases h0:s.size=0
 ·have H:Hid (nN s=false):=hid (by unfold nN;rw [decide_eq_false (by omega)];rfl)
  have hse:s=⟨#[]⟩:=by
   apply ByteArray.ext;exact Array.eq_empty_of_size_eq_zero h0
  subst hse
  go_enter Tryz.func85,Tryz.ntmps85
  go_wp2_with fail
  go_ret
  exact⟨bE H.o.symm,rfl⟩
 have hne:=iY s (by omega)
 by_cases h1:s.size≤64
 ·have H:Hid (nN s=fitAll s):=hid (by unfold nN;rw [decide_eq_true (by omega),decide_eq_true h1];rfl)
  go_enter Tryz.func85,Tryz.ntmps85
  go_wp2_with fail
  go_loop [3,13] (fun _ i=>∃k:Nat,k≤s.size∧i=.int .i64 k∧Hid ((s.data.toList.take k).all lC=true)) (fun _ i=>s.size - (intOf i).toNat)
  case atStart=>exact⟨0,Nat.zero_le _,rfl,hid rfl⟩
  case round =>
  obtain⟨k,hk,rfl,HT⟩:=hrel
  by_cases hlt:k < s.size
  ·cases hf:lC s[k]
   ·have HN:=hid (xZ s k hlt hf)
    go_wp2_with (first | (go_at_call 122;refine (tL _ _).mono ?_;rintro e w' ⟨rfl,rfl⟩))
    go_ret
    exact⟨bE (by rw [H.o,HN.o]),rfl⟩
   have HN:=hid (pI s k hlt hf HT.o)
   go_wp2_with (first | (go_at_call 122;refine (tL _ _).mono ?_;rintro e w' ⟨rfl,rfl⟩))
   go_round
   case rel=>exact⟨k+1,by omega,by go_num,HN⟩
   case measure=>simp [intOf];omega
  obtain rfl:k=s.size:=by omega
  have HN:=hid (pJ s HT.o)
  go_wp2_with fail
  go_ret
  exact⟨bE (by rw [H.o,HN.o]),rfl⟩
 have H:Hid (nN s=false):=hid (by unfold nN;rw [decide_eq_false h1];simp)
 go_enter Tryz.func85,Tryz.ntmps85
 go_wp2_with fail
 go_ret
 exact⟨bE H.o.symm,rfl⟩
theorem KE (s:ByteArray) (k:Nat) (h:k < s.size):nN (s.extract k (k+1))=lC s[k]:=by
 have h1:(s.extract k (k+1)).data.toList=[s[k]]:=by
  rw [bQ,iD,show k+1 - k=1 by omega]
  rw [List.drop_eq_getElem_cons (by simpa using h)]
  rfl
 have h2:(s.extract k (k+1)).size=1:=by rw [←ak,h1];rfl
 unfold nN fitAll;rw [h2,h1];simp
theorem qC (s:ByteArray) (k:Nat) (h:k < s.size) (w:World) :
  Calls Tryz.prog 85 #[.string (s.extract k (k+1))] w fun e w'=>e=.returned (.bool (lC s[k]))∧w=w':=by
 rw [←KE s k h]
 exact KD _ w
theorem gQ (s:ByteArray) (w:World) (hs:s.size≤140737488355328) :
  Calls Tryz.prog 139 #[.string s] w fun e w'=>e=.returned (.bool (fitAll s))∧w=w':=by
 go_enter Tryz.func139,Tryz.ntmps139
 go_wp2_with fail
 go_loop [3] (fun i=>∃k:Nat,k≤s.size∧i=.int .i64 k∧Hid ((s.data.toList.take k).all lC=true)) (fun i=>s.size - (intOf i).toNat)
 case atStart=>exact⟨0,Nat.zero_le _,rfl,hid rfl⟩
 case round =>
 obtain⟨k,hk,rfl,HT⟩:=hrel
 by_cases hlt:k < s.size
 ·by_cases hf:lC s[k]=true
  ·have HN:=hid (pI s k hlt hf HT.o)
   have hf2:¬(s[k].toNat:Int) < 33∧((s[k].toNat:Int)==127)=false:=by
    unfold lC at hf
    simp only [Bool.and_eq_true,decide_eq_true_eq,ne_eq] at hf;rw [beq_eq_false_iff_ne];omega
   obtain⟨f1,f2⟩:=hf2;clear hf
   go_wp2_with fail
   go_round
   case rel=>exact⟨k+1,by omega,by go_num,HN⟩
   case measure=>simp [intOf];omega
  have HN:=hid (xZ s k hlt (by simpa using hf))
  have hf2:(s[k].toNat:Int) < 33∨¬(s[k].toNat:Int) < 33∧((s[k].toNat:Int)==127)=true:=by
   unfold lC at hf
   simp only [Bool.and_eq_true,decide_eq_true_eq,ne_eq] at hf;rw [beq_iff_eq];omega
  clear hf
  rcases hf2 with f1 | ⟨f1,f2⟩
  all_goals
   go_wp2_with fail
   go_ret
   exact⟨bE (by rw [HN.o]),rfl⟩
 obtain rfl:k=s.size:=by omega
 have HN:=hid (pJ s HT.o)
 go_wp2_with fail
 go_ret
 exact⟨bE (by rw [HN.o]),rfl⟩
end Go.Proofs.YtfkblpjfknfgbaaGreatDoor
