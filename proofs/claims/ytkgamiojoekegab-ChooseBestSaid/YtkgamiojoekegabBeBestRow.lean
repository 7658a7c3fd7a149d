/-
  Proved: every answer of choose.Best is the document's, asked twice, and once more when whoever has the list has turned it round in its place; the list and what lies behind it stay as they are: ChooseBest answers true for every input. Conditions: none.
  The frame was written by a program of ours.
-/
import Derived.Test.YtkgamiojoekegabRows
import Derived.Test.YtkgamiojoekegabBeBest
import Derived.Test.YtkgamiojoekegabBeO
import Derived.WalkKit
import Derived.ProofKit
import Derived.OpenShut
import Derived.ShutString
import Derived.ChangeOld
import Derived.Below
import Derived.SizedLaws
namespace Go.Proofs.Ytkgamiojoekegab.chooseBest
open Go.ChangeShapes Go.WideShapes Go.ChangeAt Go.RowKit
open Go.ChangeMaps (open_string shut_string)
set_option linter.unusedVariables false
theorem own : ownKnob Try.prog.godebug = none := by kernel_rfl
theorem laidOut : laidOutB Try.prog = true := by kernel_rfl
set_option maxRecDepth 100000 in
theorem lifted (os : Os) (started : os.Started) (H : Type) (enc : TypeId × Value → H) :
    ReturnsInHanded {} Try.checked os 3 .any (Rows.chooseBestSpec.pre6 enc Try.prog Try.f3 Rows.chooseBestRow.domain false) (Rows.chooseBestSpec.post enc Try.prog Try.f3 false true false false) := by
  refine returnsInHanded_of_change_sized (C := Try.checked) own started (by kernel_rfl) Try.func3
    (ChangeSpec.witness6 (enc := enc) (C := Try.checked) false ⟨#[], #[.int .i64 0, .slice none 0 0], []⟩ 8 (by kernel_rfl) (by kernel_rfl) (by kernel_rfl) (by kernel_rfl)) ?_
  intro W base args ds gs before hval0 hW hcnd hsz0 _
  have hsz : (DataW.weightsEach Try.prog (Try.f3.params.toList ++ Rows.chooseBestSpec.plain.varTypes Try.prog) (ds ++ gs)).all (· ≤ reachBytes) = true := hsz0
  have hval : ∀ (j : Nat) t v, Try.f3.params[j]? = some t → args[j]? = some v → Value.okWide Try.prog W .any base t v := hval0
  have hW' := hW
  obtain ⟨p, q, hA0, hV, rfl, hfz, hnd⟩ := hW
  have hA : DataW.TrodAll enc Try.prog W 0 (fun _ => true) true Try.f3.params.toList args.toList ds p := hA0
  rw [Try.params3] at hA hval hsz
  obtain ⟨v0, vs0, d0, ds0, p0, q0, hargs, rfl, rfl, h0, r0⟩ := trodAll_cons hA
  obtain ⟨v1, vs1, d1, ds1, p1, q1, rfl, rfl, rfl, h1, r1⟩ := trodAll_cons r0
  obtain ⟨rfl, rfl, rfl⟩ := trodAll_nil r1
  obtain rfl : args = #[v0, v1] := by cases args; simp_all
  obtain ⟨rfl, rfl⟩ := trodVars_none hV
  obtain ⟨a0, rfl, rfl, rfl, w0⟩ := open_int Try.underlying3 (hval 0 3 v0 rfl rfl) h0
  have k1 := h1
  have lt1 : ∀ x ∈ p1, x.block < W.heap.size := by obtain ⟨m, hm⟩ := k1; exact DataW.trod_lt m _ _ _ hm
  obtain ⟨A1, len1, cap1, rfl⟩ := okWide_slice Try.underlying22 (hval 1 22 v1 rfl rfl)
  obtain ⟨l1, hl1, hC1, hlc1, hcm1, hwf1, hd1⟩ := Opn.slice_kd PChooseBest.k26 Opn.Wf26 PChooseBest.z26 Try.underlying22 (by kernel_rfl) (Opn.el26 (enc := enc) (W := W)) h1
  have hby1 : cap1 * 32 ≤ 140737488351232 := by
    rcases hd1 with ⟨_, hc, _⟩ | ⟨el, sp, he, hc⟩
    · rw [hc]; decide
    · have z := sized_slice hsz (j := 1) (t := 22) (elems := el) (spare := sp) rfl (by rw [he]; rfl) Try.underlying22
      rw [hc, show Try.prog.bytesOf 26 = 32 by kernel_rfl] at z
      exact z
  have hnn1 : A1 = none → cap1 = 0 := fun e => by subst e; exact Opn.slice_nil Try.underlying22 k1
  subst hl1
  clear hA0 hval0 hsz0 hsz
  refine (Be.best_row W a0 w0 A1 cap1 l1 hC1 hlc1 hby1 hwf1 hnn1).mono fun e W' ⟨he, bel⟩ => ?_
  subst he
  exact ⟨_, rfl, _, _, _, [], _, [], hW', trodAll_mk1 (shut_bool Try.underlying4 _), (trodAll_cons_mk (shut_int Try.underlying3 w0) (trodAll_cons_mk (Below.trod laidOut (by kernel_rfl) (of_decide_eq_true (by kernel_rfl)) k1 bel lt1) trodAll_mk0)), rfl, bel.frame _, fun h => by cases h⟩
theorem over : Rows.chooseBestRow.holds Try.pinned (OpenSpec.ofChange Rows.chooseBestSpec) :=
  OpenClaim.holds_of_wide 3 Try.f3 rfl rfl rfl rfl rfl rfl rfl ⟨rfl, rfl, rfl, rfl, rfl⟩ rfl rfl rfl rfl rfl (by kernel_rfl) Try.func3 (by kernel_rfl)
    (of_decide_eq_true (by kernel_rfl)) (by unfold Func.isWrapper; first | (rw [if_pos (by decide +kernel)]; kernel_rfl) | (rw [if_neg (by decide +kernel)]; exact ⟨rfl, rfl⟩))
    (fun os started H enc _ => lifted os started H enc)
theorem proved : Rows.ChooseBestSaid := over
#print axioms proved
end Go.Proofs.Ytkgamiojoekegab.chooseBest
namespace Go.Proofs.Ytkgamiojoekegab
/-- The row, under a short name, for the claim. -/
theorem chooseBest_holds : Rows.ChooseBestSaid := chooseBest.proved
end Go.Proofs.Ytkgamiojoekegab
