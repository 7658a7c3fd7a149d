/-
  Proved: In whatever order the ballots stand, the log that is chosen is as good and what was committed is the same; likewise whom one that recovers believes: ChooseTurned answers true for every input. Conditions: none.
  The frame was written by a program of ours.
-/
import Derived.Test.YtobnehbcnlhchaaRows
import Derived.Test.YtobnehbcnlhchaaTrU
import Derived.WalkKit
import Derived.ProofKit
import Derived.OpenShut
import Derived.ShutString
import Derived.ChangeOld
import Derived.Below
import Derived.SizedLaws
namespace Go.Proofs.Ytobnehbcnlhchaa.chooseTurned
open Go.ChangeShapes Go.WideShapes Go.ChangeAt Go.RowKit
open Go.ChangeMaps (open_string shut_string)
set_option linter.unusedVariables false
theorem own : ownKnob Try.prog.godebug = none := by kernel_rfl
theorem laidOut : laidOutB Try.prog = true := by kernel_rfl
set_option maxRecDepth 100000 in
theorem lifted (os : Os) (started : os.Started) (H : Type) (enc : TypeId × Value → H) :
    ReturnsInHanded {} Try.checked os 5 .any (Rows.chooseTurnedSpec.pre6 enc Try.prog Try.f5 Rows.chooseTurnedRow.domain false) (Rows.chooseTurnedSpec.post enc Try.prog Try.f5 false true false false) := by
  refine returnsInHanded_of_change_sized (C := Try.checked) own started (by kernel_rfl) Try.func5
    (ChangeSpec.witness6 (enc := enc) (C := Try.checked) false ⟨#[], #[.int .i64 0, .int .i64 0, .int .i64 0, .slice none 0 0, .slice none 0 0, .slice none 0 0], []⟩ 8 (by kernel_rfl) (by kernel_rfl) (by kernel_rfl) (by kernel_rfl)) ?_
  intro W base args ds gs before hval0 hW hcnd hsz0 _
  have hsz : (DataW.weightsEach Try.prog (Try.f5.params.toList ++ Rows.chooseTurnedSpec.plain.varTypes Try.prog) (ds ++ gs)).all (· ≤ reachBytes) = true := hsz0
  have hval : ∀ (j : Nat) t v, Try.f5.params[j]? = some t → args[j]? = some v → Value.okWide Try.prog W .any base t v := hval0
  have hW' := hW
  obtain ⟨p, q, hA0, hV, rfl, hfz, hnd⟩ := hW
  have hA : DataW.TrodAll enc Try.prog W 0 (fun _ => true) true Try.f5.params.toList args.toList ds p := hA0
  rw [Try.params5] at hA hval hsz
  obtain ⟨v0, vs0, d0, ds0, p0, q0, hargs, rfl, rfl, h0, r0⟩ := trodAll_cons hA
  obtain ⟨v1, vs1, d1, ds1, p1, q1, rfl, rfl, rfl, h1, r1⟩ := trodAll_cons r0
  obtain ⟨v2, vs2, d2, ds2, p2, q2, rfl, rfl, rfl, h2, r2⟩ := trodAll_cons r1
  obtain ⟨v3, vs3, d3, ds3, p3, q3, rfl, rfl, rfl, h3, r3⟩ := trodAll_cons r2
  obtain ⟨v4, vs4, d4, ds4, p4, q4, rfl, rfl, rfl, h4, r4⟩ := trodAll_cons r3
  obtain ⟨v5, vs5, d5, ds5, p5, q5, rfl, rfl, rfl, h5, r5⟩ := trodAll_cons r4
  obtain ⟨rfl, rfl, rfl⟩ := trodAll_nil r5
  obtain rfl : args = #[v0, v1, v2, v3, v4, v5] := by cases args; simp_all
  obtain ⟨rfl, rfl⟩ := trodVars_none hV
  obtain ⟨a0, rfl, rfl, rfl, w0⟩ := open_int Try.underlying3 (hval 0 3 v0 rfl rfl) h0
  obtain ⟨a1, rfl, rfl, rfl, w1⟩ := open_int Try.underlying3 (hval 1 3 v1 rfl rfl) h1
  obtain ⟨a2, rfl, rfl, rfl, w2⟩ := open_int Try.underlying3 (hval 2 3 v2 rfl rfl) h2
  have k3 := h3
  have lt3 : ∀ x ∈ p3, x.block < W.heap.size := by obtain ⟨m, hm⟩ := k3; exact DataW.trod_lt m _ _ _ hm
  obtain ⟨A3, len3, cap3, rfl⟩ := okWide_slice Try.underlying56 (hval 3 56 v3 rfl rfl)
  obtain ⟨l3, hl3, hC3, hlc3, hcm3, hwf3, hd3⟩ := Opn.slice_kd PChooseTurned.k62 Opn.Wf62 PChooseTurned.z62 Try.underlying56 (by kernel_rfl) (Opn.el62 (enc := enc) (W := W)) h3
  have hby3 : cap3 * 32 ≤ 140737488351232 := by
    rcases hd3 with ⟨_, hc, _⟩ | ⟨el, sp, he, hc⟩
    · rw [hc]; decide
    · have z := sized_slice hsz (j := 3) (t := 56) (elems := el) (spare := sp) rfl (by rw [he]; rfl) Try.underlying56
      rw [hc, show Try.prog.bytesOf 62 = 32 by kernel_rfl] at z
      exact z
  subst hl3
  have k4 := h4
  have lt4 : ∀ x ∈ p4, x.block < W.heap.size := by obtain ⟨m, hm⟩ := k4; exact DataW.trod_lt m _ _ _ hm
  obtain ⟨A4, len4, cap4, rfl⟩ := okWide_slice Try.underlying57 (hval 4 57 v4 rfl rfl)
  obtain ⟨l4, hl4, hC4, hlc4, hcm4, hwf4, hd4⟩ := Opn.slice_kd PChooseTurned.k66 Opn.Wf66 PChooseTurned.z66 Try.underlying57 (by kernel_rfl) (Opn.el66 (enc := enc) (W := W)) h4
  have hby4 : cap4 * 24 ≤ 140737488351232 := by
    rcases hd4 with ⟨_, hc, _⟩ | ⟨el, sp, he, hc⟩
    · rw [hc]; decide
    · have z := sized_slice hsz (j := 4) (t := 57) (elems := el) (spare := sp) rfl (by rw [he]; rfl) Try.underlying57
      rw [hc, show Try.prog.bytesOf 66 = 24 by kernel_rfl] at z
      exact z
  subst hl4
  have k5 := h5
  have lt5 : ∀ x ∈ p5, x.block < W.heap.size := by obtain ⟨m, hm⟩ := k5; exact DataW.trod_lt m _ _ _ hm
  obtain ⟨A5, len5, cap5, rfl⟩ := okWide_slice Try.underlying22 (hval 5 22 v5 rfl rfl)
  obtain ⟨l5, hl5, hC5, hlc5, hcm5, hwf5, hd5⟩ := Opn.slice_kd Opn.kI Opn.WfI 0 Try.underlying22 (by kernel_rfl) (Opn.elI (enc := enc) (W := W)) h5
  have hby5 : cap5 * 8 ≤ 140737488351232 := by
    rcases hd5 with ⟨_, hc, _⟩ | ⟨el, sp, he, hc⟩
    · rw [hc]; decide
    · have z := sized_slice hsz (j := 5) (t := 22) (elems := el) (spare := sp) rfl (by rw [he]; rfl) Try.underlying22
      rw [hc, show Try.prog.bytesOf 3 = 8 by kernel_rfl] at z
      exact z
  subst hl5
  clear hA0 hval0 hsz0 hsz
  refine (Tu.turned_row W a0 w0 a1 w1 a2 w2 A3 cap3 l3 hC3 hlc3 hby3 hwf3 A4 cap4 l4 hC4 hlc4 hby4 hwf4 A5 cap5 l5 hC5 hlc5 hby5 hwf5).mono fun e W' ⟨he, bel⟩ => ?_
  subst he
  exact ⟨_, rfl, _, _, _, [], _, [], hW', trodAll_mk1 (shut_bool Try.underlying4 _), (trodAll_cons_mk (shut_int Try.underlying3 w0) (trodAll_cons_mk (shut_int Try.underlying3 w1) (trodAll_cons_mk (shut_int Try.underlying3 w2) (trodAll_cons_mk (Below.trod laidOut (by kernel_rfl) (of_decide_eq_true (by kernel_rfl)) k3 bel lt3) (trodAll_cons_mk (Below.trod laidOut (by kernel_rfl) (of_decide_eq_true (by kernel_rfl)) k4 bel lt4) (trodAll_cons_mk (Below.trod laidOut (by kernel_rfl) (of_decide_eq_true (by kernel_rfl)) k5 bel lt5) trodAll_mk0)))))), rfl, bel.frame _, fun h => by cases h⟩
theorem over : Rows.chooseTurnedRow.holds Try.pinned (OpenSpec.ofChange Rows.chooseTurnedSpec) :=
  OpenClaim.holds_of_wide 5 Try.f5 rfl rfl rfl rfl rfl rfl rfl ⟨rfl, rfl, rfl, rfl, rfl⟩ rfl rfl rfl rfl rfl (by kernel_rfl) Try.func5 (by kernel_rfl)
    (of_decide_eq_true (by kernel_rfl)) (by unfold Func.isWrapper; first | (rw [if_pos (by decide +kernel)]; kernel_rfl) | (rw [if_neg (by decide +kernel)]; exact ⟨rfl, rfl⟩))
    (fun os started H enc _ => lifted os started H enc)
theorem proved : Rows.ChooseTurnedSaid := over
#print axioms proved
end Go.Proofs.Ytobnehbcnlhchaa.chooseTurned
namespace Go.Proofs.Ytobnehbcnlhchaa
/-- The row, under a short name, for the claim. -/
theorem chooseTurned_holds : Rows.ChooseTurnedSaid := chooseTurned.proved
end Go.Proofs.Ytobnehbcnlhchaa
