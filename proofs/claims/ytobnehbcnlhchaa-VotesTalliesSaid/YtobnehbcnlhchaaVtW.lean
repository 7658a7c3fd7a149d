/- Votes: small functions; a region that draws its order and only reads, within a round of a range over a function. Conditions: none. -/
import Derived.Test.YtobnehbcnlhchaaMem
import Derived.Sort.BigQuietIn
import Derived.RangeFuncNested
import Derived.RangeFuncFrom
import Derived.RangeFuncBound
import Derived.RangeFuncCalls
import Derived.RangeFuncLeaves
import Derived.OwnWalkIn
import Derived.TacticsInMore
import Derived.BigQuiet
import Derived.Deep.QuietTactic
namespace Go.Proofs.Ytobnehbcnlhchaa.Vt
open Go.RowKit Go.Proofs.Ytobnehbcnlhchaa.Mem
set_option linter.unusedVariables false
set_option linter.unusedSimpArgs false
section
variable {F : Fence} {n : Nat} {P : Program} {md : Region.Mode} {ops : Array Oper} {C : World → Prop}
theorem wpIn_of_quietR {o : Oper} {a : Act} {K : Act → Prop} {K' : Act → World → Prop} {Q' : Exit → Act → World → Prop} {w : World} (hnd : ∀ c, o.op ≠ .defer c) (hw : C w) (h : ∀ a w', C w' → K a → K' a w')
    (ha : o.askedIn F P a C) (hh : o.quietIn F n P a C K) : o.wpIn F n P a w K' Q' := by
  obtain ⟨v, h1, h2⟩ := hh
  have h3 := h1 w hw
  unfold Oper.quietAtIn at h3
  unfold Oper.wpIn
  refine ⟨ha w hw, ?_⟩
  rw [Oper.semAt_eq _ _ _ hnd]
  generalize (execOp a.eval o).run P w = r at *
  cases r with
  | ok x w' =>
    cases x <;> simp only [Oper.quietUponIn] at h3 <;> simp only [Oper.uponIn]
    case value u =>
      obtain ⟨e1, e2⟩ := h3
      rw [e1, e2]
      exact h _ _ hw h2
    case skip =>
      obtain ⟨e1, e2⟩ := h3
      rw [e1, ← e2]
      exact h _ _ hw h2
    case enter f args =>
      obtain ⟨e1, hd, hc⟩ := h3
      rw [e1]
      exact ⟨hd, hc.mono fun e w'' ⟨he, hw''⟩ => by subst he; exact h _ _ hw'' h2⟩
  | halt x w' => simp only [Oper.quietUponIn] at h3
theorem wpOpIn_of_qOpInR {i : Nat} {a : Act} {K : Act → Prop} {K' : Act → World → Prop} {Q' : Exit → Act → World → Prop} {w : World} (hnd : ∀ (j : Nat) (o : Oper), ops[j]? = some o → ∀ c, o.op ≠ .defer c) (hC : C w) (h : ∀ a w', C w' → K a → K' a w')
    (hh : qOpIn F n P ops C i K a) : wpOpIn F n P ops Q' i K' a w := by
  unfold qOpIn at hh
  unfold wpOpIn
  split
  · rename_i ho; simp only [ho] at hh; exact h _ _ hC hh
  · rename_i o ho
    simp only [ho] at hh
    obtain ⟨ha, hh⟩ := hh
    split
    · rename_i hw; simp only [hw, if_true] at hh; exact wpIn_of_quietR (hnd i o ho) hC h ha hh
    · rename_i hw; simp only [hw] at hh; exact ⟨ha w hC, h _ _ hC hh⟩
theorem wpAnyIn_of_quietR {Q : Act → Prop} {Q' : Exit → Act → World → Prop} (hnd : ∀ (j : Nat) (o : Oper), ops[j]? = some o → ∀ c, o.op ≠ .defer c) (hQ : ∀ a w, C w → Q a → Q' .normal a w) : ∀ (fuel : Nat) (listed : Array Bool) (a : Act) (w : World), C w →
    wpAnyQIn F n P md ops C Q fuel listed a → wpAnyIn F n P md ops Q' fuel listed a w
  | 0, _, _, _, hw, h => ⟨h.1, hQ _ _ hw h.2⟩
  | fuel + 1, _, _, _, hw, h => ⟨fun h0 => hQ _ _ hw (h.1 h0), fun i hi => wpOpIn_of_qOpInR hnd hw (fun a' w' hw' => wpAnyIn_of_quietR hnd hQ fuel _ a' w' hw') (h.2 i hi)⟩
/-- no operation is a 'defer' -/
def undeferred (ops : List Oper) : Bool := ops.all fun o => match o.op with | .defer _ => false | _ => true
theorem undeferred_spec {l : List Oper} (h : undeferred l = true) : ∀ (j : Nat) (o : Oper), l.toArray[j]? = some o → ∀ c, o.op ≠ .defer c := fun j o hj c e => by
  have := List.all_eq_true.1 h o (by simpa using List.mem_of_getElem? (by simpa using hj))
  rw [e] at this
  cases this
theorem quiet_in_round {id : Nat} {Q : Exit → Act → World → Prop} {a : Act} {w : World} {l : List Oper} (hnd : undeferred l = true) (hm : P.follows .mixedOrders = true) (hB : Region.lexB .any l.toArray = true)
    (h : wpQuietIn F n P l.toArray (fun w' => ∃ n, w' = w.drewN n) (fun a' => ∀ w', (∃ n, w' = w.drewN n) → Q .normal a' w') l a) : (Code.region id l.toArray true).wpIn F n P Q a w := by
  have hB' := hB
  simp only [Region.lexB, Bool.and_eq_true] at hB
  refine wpIn_region_any hm (wpAnyIn_of_quietR (C := fun w' => ∃ n, w' = w.drewN n) (Q := fun a' => ∀ w', (∃ n, w' = w.drewN n) → Q .normal a' w') (undeferred_spec hnd) (fun _ w' hw' h => h w' hw') _ _ _ _ ⟨1, rfl⟩ ?_)
  have := wpAnyQIn_lex (F := F) (n := n) (C := fun w' => ∃ n, w' = w.drewN n) (md := .any) hB.1 l.toArray.toList 0 (Array.replicate l.toArray.size false) a (by simp) (by simpa using hB.2) (by simpa using h)
  simpa using this
end
theorem within_is (a b c : Int) (w : World) : Calls Try.prog 35 #[.int .i64 a, .int .i64 b, .int .i64 c] w fun e w' => e = .returned (.bool (decide (b ≤ a) && decide (a ≤ c))) ∧ w' = w := by
  by_cases h1 : b ≤ a
  · by_cases h2 : a ≤ c
    · go_enter Try.func35, Try.ntmps35
      go_wp2
      go_ret
      simp [h1, h2]
    · go_enter Try.func35, Try.ntmps35
      go_wp2
      go_ret
      simp [h1, h2]
  · go_enter Try.func35, Try.ntmps35
    go_wp2
    go_ret
    simp [h1]
    try omega
theorem within_of {a b c : Int} {r : Bool} (h : (decide (b ≤ a) && decide (a ≤ c)) = r) (w : World) : Calls Try.prog 35 #[.int .i64 a, .int .i64 b, .int .i64 c] w fun e w' => e = .returned (.bool r) ∧ w' = w := by
  subst h
  exact within_is a b c w
end Go.Proofs.Ytobnehbcnlhchaa.Vt
