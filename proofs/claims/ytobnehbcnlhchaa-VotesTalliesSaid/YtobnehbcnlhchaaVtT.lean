/- A region that draws its order, within a round of a range over a function: what is shown of every order outside a round serves inside one. Conditions: none. -/
import Derived.Test.YtobnehbcnlhchaaVtW
import Derived.Shelf.SlSortCmp.QuietGrown
import Derived.StillTailTactics
import Derived.OrdersHeld
namespace Go.Proofs.Ytobnehbcnlhchaa.Vt
open Go.RowKit Go.Proofs.Ytobnehbcnlhchaa.Mem Go.Sort
set_option linter.unusedVariables false
section
variable {n l : Nat} {P : Program} {md : Region.Mode} {ops : Array Oper} {Q : Exit → Act → World → Prop}
/-- one operation -/
theorem op_in_round {o : Oper} {a : Act} {w : World} {K K' : Act → World → Prop} (hnd : ∀ c, o.op ≠ .defer c) (hK : ∀ a w, K a w → K' a w) (h : o.wp P a w K Q) : o.wpIn (Fence.wide.inRound l) n P a w K' Q := by
  unfold Oper.wp at h
  unfold Oper.wpIn
  refine ⟨fun _ _ => trivial, ?_⟩
  rw [Oper.semAt_eq _ _ _ hnd]
  generalize (execOp a.eval o).run P w = r at *
  cases r with
  | ok x w' =>
    cases x <;> simp only [Oper.upon] at h <;> simp only [Oper.uponIn]
    case value v => exact hK _ _ h
    case skip => exact hK _ _ h
    case defer d => exact hK _ _ h
    case enter f args =>
      refine ⟨fun hd => (by cases hd), CallsIn.inRound l (callsIn_wide.2 (h.mono ?_))⟩
      intro e w'' he
      cases e with
      | returned v => exact hK _ _ he
      | panicked chain => exact he
      | outgrown => exact he
    case row row args =>
      refine ⟨fun hd => (by cases hd), fun c cs _ => ?_⟩
      obtain ⟨v, w'', hr, hs⟩ := h c cs
      exact ⟨v, w'', hK _ _ hr, stepsIn_wide.2 hs⟩
  | halt x w' => cases x <;> simp only [Oper.upon] at h <;> simp only [Oper.uponIn] <;> exact h
/-- whatever order -/
theorem any_in_round (hnd : ∀ (j : Nat) (o : Oper), ops[j]? = some o → ∀ c, o.op ≠ .defer c) (hQ : ¬ LetsOut Q) : ∀ (fuel : Nat) (listed : Array Bool) (a : Act) (w : World), wpAny P md ops Q fuel listed a w → wpAnyIn (Fence.wide.inRound l) n P md ops Q fuel listed a w
  | 0, _, _, _, h => h
  | fuel + 1, listed, a, w, h => ⟨h.1, fun i hi => by
    have hs := h.2 i hi
    unfold wpOp at hs
    unfold wpOpIn
    split
    · rename_i ho
      simp only [ho] at hs
      exact any_in_round hnd hQ fuel _ _ _ hs
    · rename_i o ho
      simp only [ho] at hs
      split
      · rename_i hw
        simp only [hw, if_true] at hs
        rcases hs with hs | ⟨_, hs⟩
        · exact op_in_round (hnd i o ho) (fun a w hk => any_in_round hnd hQ fuel _ _ _ hk) hs
        · exact absurd hs hQ
      · rename_i hw
        simp only [hw] at hs
        exact ⟨fun _ _ => trivial, any_in_round hnd hQ fuel _ _ _ hs⟩⟩
/-- the class of worlds with blocks laid behind -/
theorem grown_in_round {id : Nat} {a : Act} {w : World} {ls : List Oper} (hnd : undeferred ls = true) (hQ : ¬ LetsOut Q) (hm : P.follows .mixedOrders = true) (hB : Region.lexB .any ls.toArray = true)
    (h : wpQuiet P ls.toArray (fun w' => ∃ p : GrownBy, w' = grow (w.drewN p.n) p.os) (fun a' => ∀ w', (∃ p : GrownBy, w' = grow (w.drewN p.n) p.os) → Q .normal a' w') ls a) : (Code.region id ls.toArray true).wpIn (Fence.wide.inRound l) n P Q a w := by
  simp only [Region.lexB, Bool.and_eq_true] at hB
  refine wpIn_region_any hm (any_in_round (undeferred_spec hnd) hQ _ _ _ _ (wpAny_of_quiet (C := fun w' => ∃ p : GrownBy, w' = grow (w.drewN p.n) p.os) (Q := fun a' => ∀ w', (∃ p : GrownBy, w' = grow (w.drewN p.n) p.os) → Q .normal a' w') (fun _ w' hw' h => h w' hw') _ _ _ _ ⟨⟨1, #[]⟩, by rw [grow_empty]; rfl⟩ ?_))
  have := wpAnyQ_lex (P := P) (C := fun w' => ∃ p : GrownBy, w' = grow (w.drewN p.n) p.os) (md := .any) hB.1 ls.toArray.toList 0 (Array.replicate ls.toArray.size false) a (by simp) (by simpa using hB.2) (by simpa using h)
  simpa using this
/-- a head that only reads, then a tail in its order -/
theorem tail_in_round {id : Nat} {a : Act} {w : World} {ls : List Oper} (m : Nat) (hnd : undeferred ls = true) (hQ : ¬ LetsOut Q) (hm : P.follows .mixedOrders = true) (hB : Region.lexTailB .any ls.toArray m = true)
    (h : wpStill P ls.toArray { w with drawn := w.drawn + 1 } (fun a' => wpList P ls.toArray Q (ls.drop m) a' { w with drawn := w.drawn + 1 }) (ls.take m) a) : (Code.region id ls.toArray true).wpIn (Fence.wide.inRound l) n P Q a w := by
  simp only [Region.lexTailB, Bool.and_eq_true, decide_eq_true_eq] at hB
  obtain ⟨⟨⟨⟨hsel, hn⟩, hs⟩, hc⟩, hlex⟩ := hB
  have hn' : m < ls.length := by simpa using hn
  have htl : (ls.take m).length = m := by simp; omega
  have hdl : (ls.drop m).length = ls.toArray.size - m := by simp
  have inv : HeadInv .any ls.toArray m (Array.replicate ls.toArray.size false) :=
    ⟨by simp, fun j oj _ hl => (by rw [getD_replicate_false] at hl; cases hl), fun t _ ht => getD_in (by simpa using ht) (getD_replicate_false _ _)⟩
  have H := wpAnyL_lex (md := .any) (g := ls.toArray.size - m) hsel hs hc hn (ls.take m) 0 _ a (fun j hj => by
    have hj' : j < m := by rw [htl] at hj; exact hj
    simp [hj']) (by simpa using htl) inv (by rw [htl]; exact hlex) h
  refine wpIn_region_any hm (any_in_round (undeferred_spec hnd) hQ _ _ _ _ ?_)
  have K := wpAny_of_head (Q' := Q) (g := ls.toArray.size - m) (fun listed a' hL => by
    have K := wpAny_of_seq (md := .any) (Q' := Q) (ls.drop m) m listed a' { w with drawn := w.drawn + 1 } (fun j => by simp [List.getElem?_drop]) (by rw [hdl]; exact hL.1) hL.2
    rwa [hdl] at K) _ _ _ H
  rw [htl, show m + (ls.toArray.size - m) = ls.toArray.size by omega] at K
  exact K
end
end Go.Proofs.Ytobnehbcnlhchaa.Vt
