/-
  A region that draws its order of evaluation, in a round of a range over a function: it may be walked as outside of every round, if no statement of it defers.
-/
import Derived.Test.YthfndmpigpphoaaGreatRows
import Derived.RangeFuncCalls
import Derived.OrdersIn
import Derived.OwnWalkIn
namespace Go.Proofs.YthfndmpigpphoaaGreat
open Go

/-- No operation is a 'defer' statement. -/
def noDefer (ops : Array Oper) : Bool := ops.toList.all fun o => match o.op with | .defer _ => false | _ => true
theorem noDefer_at {ops : Array Oper} (h : noDefer ops = true) {i : Nat} {o : Oper} (hi : ops[i]? = some o) : ∀ c, o.op ≠ .defer c := by
  intro c e
  have hm : o ∈ ops.toList := by
    rw [← Array.getElem?_toList] at hi
    exact List.mem_of_getElem? hi
  have := List.all_eq_true.1 h o hm
  rw [e] at this
  cases this
theorem wpIn_round {F : Fence} {n l : Nat} {P : Program} {o : Oper} {a : Act} {w : World} {K : Act → World → Prop} {Q : Exit → Act → World → Prop} (ho : ∀ c, o.op ≠ .defer c) (h : o.wpIn F n P a w K Q) : o.wpIn (F.inRound l) n P a w K Q := by
  refine ⟨h.1, ?_⟩
  have h2 := h.2
  rw [Oper.semAt_plain F _ _ ho] at h2
  rw [Oper.semAt_plain (F.inRound l) _ _ ho]
  exact h2
theorem wpOpsIn_round {F : Fence} {n l : Nat} {P : Program} {ops : Array Oper} {Q : Exit → Act → World → Prop} (hnd : noDefer ops = true) : ∀ (is : List Nat) (a : Act) (w : World), wpOpsIn F n P ops Q is a w → wpOpsIn (F.inRound l) n P ops Q is a w
  | [], _, _, h => h
  | i :: is, a, w, h => by
    rw [wpOpsIn_cons] at h ⊢
    unfold wpOpIn at h ⊢
    split
    · rename_i hi
      simp only [hi] at h
      exact wpOpsIn_round hnd is a w h
    · rename_i o hi
      simp only [hi] at h
      split
      · rename_i hw
        rw [if_pos hw] at h
        exact Oper.wpIn_mono (fun a w => wpOpsIn_round hnd is a w) (wpIn_round (noDefer_at hnd hi) h)
      · rename_i hw
        rw [if_neg hw] at h
        exact ⟨h.1, wpOpsIn_round hnd is _ w h.2⟩
theorem wpIn_region_round {F : Fence} {n l id : Nat} {P : Program} {ops : Array Oper} {Q : Exit → Act → World → Prop} {a : Act} {w : World} (hm : P.follows .mixedOrders = true) (hnd : noDefer ops = true)
    (h : wpAnyIn F n P .any ops Q ops.size (Array.replicate ops.size false) a w.drew) : (Code.region id ops true).wpIn (F.inRound l) n P Q a w :=
  wpIn_region_draw fun t => by
    simp only [Region.schedule, hm, Bool.true_or, if_true]
    exact wpOpsIn_round hnd _ _ _ (wpAnyIn_sound ops.size t _ a _ h)
/-- append at a step of a region that draws. -/
theorem stepIn_append {F : Fence} {n : Nat} {P : Program} {w : World} {ops : Array Oper} {o : Oper} {a : Act} {K : Act → World → Prop} {Q : Exit → Act → World → Prop} {E : Prop} (hg : o.guard = none) (s x : Operand) (t : TypeId) (hop : o.op = Op.call { callee := Callee.builtin Builtin.append, args := #[s, x], argTypes := #[t, t] })
    (base : Nat) (e : TypeId) (i : TypeInfo) (z : Value) (size bytes : Nat) (h1 : P.underlying t = some (.slice e)) (h2 : P.info? e = some i) (h3 : i.zero = some z) (h4 : i.size = size) (h5 : i.bytes = bytes) (h6 : z.cells.size = size) (h7 : 0 < size)
    (v : Value) (k : Nat) (xs : List Value) (hs : a.eval s = v) (hown : w.ownsRow base e size v k xs) (ad : Addr) (m c : Nat) (news : List Value) (hx : a.eval x = .slice (some ad) m c) (hn : news.length = m * size)
    (hc : ∀ j u, news[j]? = some u → w.cell? (ad.add j) = some u) (h1c : ∀ u ∈ news, u.oneCell' = true) (b1 : k + m ≤ maxLen) (b2 : (k + m) * bytes ≤ 140737488355328) (b3 : base ≤ w.heap.size)
    (hK : ∀ v' w', w'.ownsRow base e size v' (k + m) (xs ++ news) → w.grownBy w' v.ownBlock → K (a.put o.dst v') w') :
    if Region.wanted o (yielded ops a.tmps) = true then Oper.wpIn F n P o a w K Q else E := by
  have hw : Region.wanted o (yielded ops a.tmps) = true := by simp [Region.wanted, hg]
  rw [if_pos hw]
  obtain ⟨v', w', hrun, r1, r2, r3⟩ := run_append_own (P := P) w base t o.type e i z size bytes h1 h2 h3 h4 h5 h6 h7 v k xs hown ad m c news hn hc h1c b1 b2 b3
  unfold Oper.wpIn
  refine ⟨?_, ?_⟩
  · simp [Oper.about, hop, resolve, Target.leads, Sem.run_pure]
  · rw [Oper.semAt_plain F _ _ (by rw [hop]; intro c hc'; cases hc')]
    simp [execOp, hop, resolve, invoke, builtin, hs, hx, hrun, Result.andThen]
    exact hK v' w' r1 r2
end Go.Proofs.YthfndmpigpphoaaGreat
