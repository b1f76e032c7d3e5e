/-
  A region that draws its order and only reads, walked once, inside a round of a wide fence.
-/
import Derived.Test.YthfndmpigpphoaaGreatRows
import Derived.BigQuiet
import Derived.OwnWalkIn
import Derived.Deep.RegionHeld
import Derived.RangeFuncNested
namespace Go.Proofs.YthfndmpigpphoaaGreat
open Go.RowKit

def isDefer : Op → Bool
  | .defer _ => true
  | _ => false
def noDefers (l : List Oper) : Bool := l.all fun o => !isDefer o.op

section
variable {P : Program} {ops : Array Oper} {md : Region.Mode} {C : World → Prop} {l n : Nat}
theorem wpIn_of_quietOp {o : Oper} (hd : isDefer o.op = false) {a : Act} {K : Act → Prop} {K' : Act → World → Prop} {Q' : Exit → Act → World → Prop} {w : World} (hw : C w) (h : ∀ a w', C w' → K a → K' a w') (hh : o.quiet P a C K) :
    o.wpIn (Fence.wide.inRound l) n P a w K' Q' := by
  obtain ⟨v, h1, h2⟩ := hh
  have h3 := h1 w hw
  unfold Oper.quietAt at h3
  refine ⟨fun _ _ => trivial, ?_⟩
  rw [Oper.semAt_eq _ _ o (fun c e => by rw [e] at hd; cases hd)]
  generalize (execOp a.eval o).run P w = r at *
  cases r with
  | ok nx w' =>
    cases nx <;> simp only [Oper.quietUpon] at h3 <;> simp only [Oper.uponIn]
    case value u =>
      obtain ⟨e1, e2⟩ := h3
      rw [e1, e2]
      exact h _ _ hw h2
    case skip =>
      obtain ⟨e1, e2⟩ := h3
      rw [e1, ← e2]
      exact h _ _ hw h2
    case enter f args =>
      obtain ⟨e1, hc⟩ := h3
      rw [e1]
      refine ⟨fun hdp => by simp [Fence.wide] at hdp, ?_⟩
      have h5 : CallsIn Fence.wide (n - 1) P f args w fun
          | .returned v, w'' => K' (a.put o.dst v) w''
          | .panicked chain, w'' => Q' (.panic chain) a w''
          | .outgrown, _ => LetsOut Q' := callsIn_wide.2 (hc.mono fun e w'' hx => by obtain ⟨he, hw2⟩ := hx; subst he; exact h _ _ hw2 h2)
      exact h5
  | halt x w' => simp only [Oper.quietUpon] at h3

theorem wpOpIn_of_qOp {i : Nat} (hd : ∀ (i : Nat) (o : Oper), ops[i]? = some o → isDefer o.op = false) {a : Act} {K : Act → Prop} {K' : Act → World → Prop} {Q' : Exit → Act → World → Prop} {w : World} (hC : C w) (h : ∀ a w', C w' → K a → K' a w') (hh : qOp P ops C i K a) :
    wpOpIn (Fence.wide.inRound l) n P ops Q' i K' a w := by
  unfold qOp at hh
  unfold wpOpIn
  split
  · rename_i ho; simp only [ho] at hh; exact h _ _ hC hh
  · rename_i o ho
    simp only [ho] at hh
    split
    · rename_i hw; simp only [hw, if_true] at hh; exact wpIn_of_quietOp (hd _ _ ho) hC h hh
    · rename_i hw; simp only [hw] at hh; exact ⟨fun _ _ => trivial, h _ _ hC hh⟩

theorem wpAnyIn_of_quiet (hd : ∀ (i : Nat) (o : Oper), ops[i]? = some o → isDefer o.op = false) {Q : Act → Prop} {Q' : Exit → Act → World → Prop} (hQ : ∀ a w, C w → Q a → Q' .normal a w) : ∀ (fuel : Nat) (listed : Array Bool) (a : Act) (w : World), C w →
    wpAnyQ P md ops C Q fuel listed a → wpAnyIn (Fence.wide.inRound l) n P md ops Q' fuel listed a w
  | 0, _, _, _, hw, h => ⟨h.1, hQ _ _ hw h.2⟩
  | fuel + 1, _, _, _, hw, h => ⟨fun h0 => hQ _ _ hw (h.1 h0), fun i hi => wpOpIn_of_qOp hd hw (fun a' w' hw' => wpAnyIn_of_quiet hd hQ fuel _ a' w' hw') (h.2 i hi)⟩

theorem wpIn_region_quiet {id : Nat} {Q : Exit → Act → World → Prop} {a : Act} {w : World} {ls : List Oper} (hm : P.follows .mixedOrders = true) (hB : Region.lexB .any ls.toArray = true) (hD : noDefers ls = true)
    (h : wpQuiet P ls.toArray (fun w' => ∃ n, w' = w.drewN n) (fun a' => ∀ w', (∃ n, w' = w.drewN n) → Q .normal a' w') ls a) : (Code.region id ls.toArray true).wpIn (Fence.wide.inRound l) n P Q a w := by
  simp only [Region.lexB, Bool.and_eq_true] at hB
  have hd : ∀ (i : Nat) (o : Oper), ls.toArray[i]? = some o → isDefer o.op = false := fun i o ho => by
    have h1 : o ∈ ls := by rw [List.getElem?_toArray] at ho; exact List.mem_of_getElem? ho
    have h2 := List.all_eq_true.1 hD o h1
    simpa using h2
  refine wpIn_region_any hm (wpAnyIn_of_quiet hd (C := fun w' => ∃ n, w' = w.drewN n) (Q := fun a' => ∀ w', (∃ n, w' = w.drewN n) → Q .normal a' w') (fun _ w' hw' h => h w' hw') _ _ _ _ ⟨1, rfl⟩ ?_)
  have := wpAnyQ_lex (C := fun w' => ∃ n, w' = w.drewN n) (md := .any) hB.1 ls.toArray.toList 0 (Array.replicate ls.toArray.size false) a (by simp) (by simpa using hB.2) (by simpa using h)
  simpa using this

theorem wpOp_swap {o : Oper} {a : Act} {w : World} {K K' : Act → World → Prop} {Q Q' : Exit → Act → World → Prop} (hQ : ∀ a w, ¬ Q .outgrown a w) (hP : ∀ c a w, Q (.panic c) a w → Q' (.panic c) a w) (hK : ∀ a w, K a w → K' a w) (h : o.wp P a w K Q) : o.wp P a w K' Q' := by
  unfold Oper.wp at *
  generalize (execOp a.eval o).run P w = r at *
  cases r with
  | ok nx w' =>
    cases nx <;> simp only [Oper.upon] at h <;> simp only [Oper.upon]
    case value u => exact hK _ _ h
    case skip => exact hK _ _ h
    case defer d => exact hK _ _ h
    case enter f args =>
      refine Calls.mono h fun e w2 he => ?_
      cases e with
      | returned v => exact hK _ _ he
      | panicked c => exact hP _ _ _ he
      | outgrown => obtain ⟨a2, w3, h3⟩ := he; exact absurd h3 (hQ _ _)
    case row row args => exact Rows.mono h fun u w2 he => hK _ _ he
  | halt x w' =>
    cases x <;> simp only [Oper.upon] at h <;> simp only [Oper.upon]
    exact hP _ _ _ h

theorem wpIn_of_op {o : Oper} (hd : isDefer o.op = false) {a : Act} {w : World} {K : Act → World → Prop} {Q : Exit → Act → World → Prop} (h : o.wp P a w K Q) : o.wpIn (Fence.wide.inRound l) n P a w K Q := by
  refine ⟨fun _ _ => trivial, ?_⟩
  rw [Oper.semAt_eq _ _ o (fun c e => by rw [e] at hd; cases hd)]
  unfold Oper.wp at h
  generalize (execOp a.eval o).run P w = r at *
  cases r with
  | ok nx w' =>
    cases nx <;> simp only [Oper.upon] at h <;> simp only [Oper.uponIn]
    case value u => exact h
    case skip => exact h
    case defer d => exact h
    case enter f args => exact ⟨fun hdp => by simp [Fence.wide] at hdp, callsIn_wide.2 h⟩
    case row row args =>
      refine ⟨fun hdp => by simp [Fence.wide] at hdp, fun c cs _ => ?_⟩
      obtain ⟨v, w1, h1, h2⟩ := h c cs
      exact ⟨v, w1, h1, stepsIn_wide.2 h2⟩
  | halt x w' =>
    cases x <;> simp only [Oper.upon] at h <;> simp only [Oper.uponIn]
    exact h

theorem wpOpIn_of_op {i : Nat} (hd : ∀ (i : Nat) (o : Oper), ops[i]? = some o → isDefer o.op = false) {a : Act} {K K' : Act → World → Prop} {Q Q' : Exit → Act → World → Prop} {w : World} (hQ : ∀ a w, ¬ Q .outgrown a w) (hP : ∀ c a w, Q (.panic c) a w → Q' (.panic c) a w) (h : ∀ a w', K a w' → K' a w') (hh : wpOp P ops Q i K a w) :
    wpOpIn (Fence.wide.inRound l) n P ops Q' i K' a w := by
  unfold wpOp at hh
  unfold wpOpIn
  split
  · rename_i ho; simp only [ho] at hh; exact h _ _ hh
  · rename_i o ho
    simp only [ho] at hh
    split
    · rename_i hw
      simp only [hw, if_true] at hh
      rcases hh with hh | ⟨_, a2, w2, h2⟩
      · exact wpIn_of_op (hd _ _ ho) (wpOp_swap hQ hP h hh)
      · exact absurd h2 (hQ _ _)
    · rename_i hw; simp only [hw] at hh; exact ⟨fun _ _ => trivial, h _ _ hh⟩

theorem wpAnyIn_of_any (hd : ∀ (i : Nat) (o : Oper), ops[i]? = some o → isDefer o.op = false) {R : Act → World → Prop} {Q : Exit → Act → World → Prop} (hQ : ∀ a w, R a w → Q .normal a w) : ∀ (fuel : Nat) (listed : Array Bool) (a : Act) (w : World),
    wpAny P md ops (Exit.then R fun _ _ _ => False) fuel listed a w → wpAnyIn (Fence.wide.inRound l) n P md ops Q fuel listed a w
  | 0, _, _, _, h => ⟨h.1, hQ _ _ h.2⟩
  | fuel + 1, _, _, _, h => ⟨fun h0 => hQ _ _ (h.1 h0), fun i hi => wpOpIn_of_op hd (fun _ _ h => h) (fun _ _ _ h => h.elim) (fun a' w' => wpAnyIn_of_any hd hQ fuel _ a' w') (h.2 i hi)⟩

/-- A region that draws its order, in a round: walked as anywhere, S held. -/
theorem wpIn_region_held {id : Nat} {S : World → Prop} {R : Act → World → Prop} {Q : Exit → Act → World → Prop} {a : Act} {w : World} {ls : List Oper} (hQ : ∀ a w, R a w → Q .normal a w) (hm : P.follows .mixedOrders = true) (hD : noDefers ls = true) (hS : S w.drew)
    (h : S w.drew → wpAnyH P .any ls.toArray (Exit.then R fun _ _ _ => False) S ls.toArray.size (Array.replicate ls.toArray.size false) a w.drew) : (Code.region id ls.toArray true).wpIn (Fence.wide.inRound l) n P Q a w := by
  have hd : ∀ (i : Nat) (o : Oper), ls.toArray[i]? = some o → isDefer o.op = false := fun i o ho => by
    have h1 : o ∈ ls := by rw [List.getElem?_toArray] at ho; exact List.mem_of_getElem? ho
    have h2 := List.all_eq_true.1 hD o h1
    simpa using h2
  exact wpIn_region_any hm (wpAnyIn_of_any hd hQ _ _ _ _ (wpAny_of_held _ _ _ _ (h hS)))
/-- The same outside of a round. -/
theorem wpIn_region_heldW {id : Nat} {S : World → Prop} {R : Act → World → Prop} {Q : Exit → Act → World → Prop} {a : Act} {w : World} {ls : List Oper} (hQ : ∀ a w, R a w → Q .normal a w) (hm : P.follows .mixedOrders = true) (hS : S w.drew)
    (h : S w.drew → wpAnyH P .any ls.toArray (Exit.then R fun _ _ _ => False) S ls.toArray.size (Array.replicate ls.toArray.size false) a w.drew) : (Code.region id ls.toArray true).wpIn Fence.wide n P Q a w :=
  wpIn_mono (wpIn_wide.2 (wp_region_held_drew hm hS h)) (fun e a w he => by
    cases e
    case normal => exact hQ _ _ he
    all_goals exact he.elim)
end
end Go.Proofs.YthfndmpigpphoaaGreat
