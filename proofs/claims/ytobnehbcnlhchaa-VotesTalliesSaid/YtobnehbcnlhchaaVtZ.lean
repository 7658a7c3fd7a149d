/- A region that draws its order and ends in one operation that waits for all others (a store over what was read): the reads may be taken first, under a condition that the last operation need not keep. Conditions: none. -/
import Derived.Test.YtobnehbcnlhchaaMem
import Derived.Deep.RegionHeld
namespace Go.Proofs.Ytobnehbcnlhchaa.Vt
open Go.RowKit Go.Proofs.Ytobnehbcnlhchaa.Mem
set_option linter.unusedVariables false
section
variable {P : Program} {ops : Array Oper} {Q : Exit → Act → World → Prop} {md : Region.Mode} {S : World → Prop}
/-- whatever order; S behind every operation but the last one -/
def wpAnyL (P : Program) (md : Region.Mode) (ops : Array Oper) (Q : Exit → Act → World → Prop) (S : World → Prop) (last : Nat) : Nat → Array Bool → Act → World → Prop
  | 0, listed, a, w => Region.ready md ops listed = [] ∧ Q .normal a w
  | fuel + 1, listed, a, w =>
    (Region.ready md ops listed = [] → Q .normal a w) ∧
    ∀ i ∈ Region.ready md ops listed, wpOp P ops Q i (fun a' w' => (i ≠ last → S w') ∧ wpAnyL P md ops Q S last fuel (listed.setIfInBounds i true) a' w') a w
theorem wpAny_of_last {last : Nat} : ∀ (fuel : Nat) (listed : Array Bool) (a : Act) (w : World), wpAnyL P md ops Q S last fuel listed a w → wpAny P md ops Q fuel listed a w
  | 0, _, _, _, h => h
  | fuel + 1, _, _, _, h => ⟨h.1, fun i hi => wpOp_mono (fun a' w' h' => wpAny_of_last fuel _ a' w' h'.2) (h.2 i hi)⟩
/-- what has come up had all it waits for before it -/
def Down (md : Region.Mode) (ops : Array Oper) (listed : Array Bool) : Prop := ∀ j o, ops[j]? = some o → listed.getD j false = true → ∀ e ∈ o.after, Region.binds md e = true → listed.getD e.on false = true
theorem Down.none (n : Nat) : Down md ops (Array.replicate n false) := fun j o _ h => by
  rw [show (Array.replicate n false).getD j false = false by
    rw [Array.getD_eq_getD_getElem?, Array.getElem?_replicate]
    split <;> rfl] at h
  cases h
theorem Down.set {listed : Array Bool} (h : Down md ops listed) {i : Nat} (hi : i ∈ Region.ready md ops listed) : Down md ops (listed.setIfInBounds i true) := fun j o hj hl e he hb => by
  by_cases hji : i = j
  · subst hji
    obtain ⟨_, o', ho', hall⟩ := mem_ready.1 hi
    rw [hj] at ho'
    cases ho'
    exact getD_set_true (hall e he hb)
  · rw [getD_set_ne false hji] at hl
    exact getD_set_true (h j o hj hl e he hb)
/-- each waits for the one before it -/
def chainB (md : Region.Mode) (ops : Array Oper) : Nat → List Nat → Bool
  | _, [] => true
  | i, c :: r => ((ops[c]?).map fun o => o.after.toList.any fun e => e.on == i && Region.binds md e).getD false && chainB md ops c r
theorem chain_unlisted {listed : Array Bool} (hd : Down md ops listed) : ∀ (cs : List Nat) (i : Nat), chainB md ops i cs = true → listed.getD i false = false → ∀ c, c ∈ cs → c ∉ Region.ready md ops listed
  | [], _, _, _, c, hc => by cases hc
  | d :: r, i, h, hi, c, hc => by
    unfold chainB at h
    rw [Bool.and_eq_true] at h
    obtain ⟨h1, h2⟩ := h
    rcases ho : ops[d]? with _ | o
    · rw [ho] at h1; cases h1
    · rw [ho] at h1
      simp only [Option.map_some, Option.getD_some, List.any_eq_true, Bool.and_eq_true, beq_iff_eq] at h1
      obtain ⟨e, he, hon, hb⟩ := h1
      have he : e ∈ o.after := by simpa using he
      have hdf : listed.getD d false = false := by
        cases hq : listed.getD d false with
        | false => rfl
        | true =>
          have := hd d o ho hq e he hb
          rw [hon, hi] at this
          cases this
      rcases List.mem_cons.1 hc with rfl | hc
      · intro hr
        obtain ⟨_, o', ho', hall⟩ := mem_ready.1 hr
        rw [ho] at ho'
        cases ho'
        have := hall e he hb
        rw [hon, hi] at this
        cases this
      · exact chain_unlisted hd r d h2 hdf c hc
theorem getD_false_of {listed : Array Bool} {i : Nat} (h : listed.getD i true = false) : listed.getD i false = false := by
  rw [Array.getD_eq_getD_getElem?] at *
  rcases hq : listed[i]? with _ | b
  · rw [hq] at h; cases h
  · rw [hq] at h; exact h
theorem wpAnyL_first {i last : Nat} {oi : Oper} {v : Value} (hi : ops[i]? = some oi) (hsel : ∀ (j : Nat) (o : Oper) cs b, ops[j]? = some o → o.op ≠ .select cs b)
    (hQ : ∀ c a w, Q (.panic c) (a.put oi.dst v) w → Q (.panic c) a w) (cs : List Nat) (hch : chainB md ops i cs = true) (hlc : last ∈ cs) :
    ∀ (fuel : Nat) (listed : Array Bool) (a : Act) (w : World), Down md ops listed →
      (∀ j oj, ops[j]? = some oj → j ≠ i → listed.getD j true = false → (∀ e ∈ oj.after, Region.binds md e = true → e.on ≠ i) → oi.apart ops oj = true) →
      i ∈ Region.ready md ops listed → YieldsIf P ops S oi v a → S w →
      wpAnyL P md ops Q S last fuel (listed.setIfInBounds i true) (a.put oi.dst v) w → wpAnyL P md ops Q S last (fuel + 1) listed a w := by
  intro fuel
  induction fuel with
  | zero =>
    intro listed a w _ _ hr hy hS H
    refine ⟨fun h => (by rw [h] at hr; cases hr), fun j hj => ?_⟩
    by_cases hji : j = i
    · subst hji; exact hy.wpOp hi hS ⟨fun _ => hS, H⟩
    · have := ready_mono hj hji
      rw [H.1] at this
      cases this
  | succ fuel ih =>
    intro listed a w hD hfree hr hy hS H
    refine ⟨fun h => (by rw [h] at hr; cases hr), fun j hj => ?_⟩
    by_cases hji : j = i
    · subst hji; exact hy.wpOp hi hS ⟨fun _ => hS, H⟩
    · have hjl : j ≠ last := fun e => chain_unlisted hD cs i hch (getD_false_of (mem_ready.1 hr).1) last hlc (e ▸ hj)
      have h1 := H.2 j (ready_mono hj hji)
      obtain ⟨hjun, oj, hoj, hall⟩ := mem_ready.1 hj
      have hnot : ∀ e ∈ oj.after, Region.binds md e = true → e.on ≠ i := fun e he hb heq => by
        have h1 := hall e he hb
        have h0 := (mem_ready.1 hr).1
        rw [heq] at h1
        rcases Nat.lt_or_ge i listed.size with h' | h'
        · simp [h'] at h0 h1; rw [h0] at h1; cases h1
        · simp [Array.getElem?_eq_none h'] at h1
      have h2 := wpOp_putIf hoj (hfree j oj hoj hji hjun hnot) (fun cs b => hsel i oi cs b hi) (fun cs b => hsel j oj cs b hoj) hQ hy h1
      have hfree' : ∀ k ok, ops[k]? = some ok → k ≠ i → (listed.setIfInBounds j true).getD k true = false →
          (∀ e ∈ ok.after, Region.binds md e = true → e.on ≠ i) → oi.apart ops ok = true := fun k ok hk hki hun hno => by
        refine hfree k ok hk hki ?_ hno
        by_cases hjk : j = k
        · subst hjk; exact hjun
        · rw [getD_set_ne true hjk] at hun; exact hun
      refine wpOp_mono (fun a' w' h3 => ⟨h3.2.1, ih (listed.setIfInBounds j true) a' w' (hD.set hj) hfree' (ready_mono hr (Ne.symm hji)) h3.1 (h3.2.1 hjl) ?_⟩) h2
      rw [Array.setIfInBounds_comm _ _ hji]
      exact h3.2.2
/-- the walk: what has come up so far is closed downwards -/
def wpAnyD (P : Program) (md : Region.Mode) (ops : Array Oper) (Q : Exit → Act → World → Prop) (S : World → Prop) (last fuel : Nat) (listed : Array Bool) (a : Act) (w : World) : Prop := Down md ops listed → wpAnyL P md ops Q S last fuel listed a w
/-- number i first -/
theorem wpAnyD_take {i last : Nat} {oi : Oper} {v : Value} {fuel : Nat} {listed : Array Bool} {a : Act} {w : World} (d : Option Tmp) (hi : ops[i]? = some oi) (hd : oi.dst = d)
    (hs : Region.noSelect ops = true) (hf : Region.free md ops listed i = true) (hr : (Region.ready md ops listed).contains i = true) (cs : List Nat) (hch : chainB md ops i cs = true) (hlc : cs.contains last = true)
    (hQ : ∀ c a w, Q (.panic c) (a.put d v) w → Q (.panic c) a w) (hy : YieldsIf P ops S oi v a) (hS : S w)
    (h : wpAnyD P md ops Q S last fuel (listed.setIfInBounds i true) (a.put d v) w) : wpAnyD P md ops Q S last (fuel + 1) listed a w := fun hD => by
  subst hd
  exact wpAnyL_first hi (Region.noSelect_spec hs) hQ cs hch (by simpa using hlc) fuel listed a w hD (Region.free_spec hi hf) (by simpa using hr) hy hS (h (hD.set (by simpa using hr)))
/-- the only one that may come up -/
theorem wpAnyD_one {i last : Nat} {o : Oper} {fuel : Nat} {listed : Array Bool} {a : Act} {w : World} (hr : Region.ready md ops listed = [i]) (ho : ops[i]? = some o)
    (h : ∀ K : Act → World → Prop, Shut (∀ a w, (i ≠ last → S w) → ((i ≠ last → S w) → wpAnyD P md ops Q S last fuel (listed.setIfInBounds i true) a w) → K a w) → if Region.wanted o (yielded ops a.tmps) = true then Oper.wp P o a w K Q else K (a.put o.dst undef) w) : wpAnyD P md ops Q S last (fuel + 1) listed a w := fun hD =>
  ⟨fun h0 => by rw [hr] at h0; (cases h0), fun j hj => by
    rw [hr, List.mem_singleton] at hj
    subst hj
    have hD' := hD.set (i := j) (by rw [hr]; exact List.mem_singleton.2 rfl)
    exact wpOp_step ho (fun K hK => h K (fun a w hS hW => hK a w ⟨hS, hW hS hD'⟩))⟩
theorem wpAnyD_done {last : Nat} {listed : Array Bool} {a : Act} {w : World} (hr : Region.ready md ops listed = []) (h : Q .normal a w) : ∀ fuel, wpAnyD P md ops Q S last fuel listed a w
  | 0 => fun _ => ⟨hr, h⟩
  | _ + 1 => fun _ => ⟨fun _ => h, by rw [hr]; simp⟩
/-- the beginning -/
theorem wp_region_last {id last : Nat} {a : Act} {w : World} (hm : P.follows .mixedOrders = true) (h : wpAnyD P .any ops Q S last ops.size (Array.replicate ops.size false) a w.drew) : (Code.region id ops true).wp P Q a w :=
  wp_region_any hm (wpAny_of_last _ _ _ _ (h (Down.none _)))
end
end Go.Proofs.Ytobnehbcnlhchaa.Vt
