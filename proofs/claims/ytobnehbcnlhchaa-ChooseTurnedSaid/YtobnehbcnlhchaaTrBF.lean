/- The document's Best (the reference) answers as choose.Best does: over plain lists. Conditions: none. -/
import Derived.Test.YtobnehbcnlhchaaTrBX
namespace Go.Proofs.Ytobnehbcnlhchaa.Be
open Go.RowKit Go.Proofs.YtobnehbcnlhchaaW.PrintWords Go.Proofs.Ytobnehbcnlhchaa.PChooseTurned
set_option linter.unusedVariables false
set_option linter.unusedSimpArgs false

theorem fresh_iff (n : Int) (pre : List S62) (x : S62) : fresh n pre x = true ↔ (0 ≤ x.f0 ∧ x.f0 < n) ∧ ∀ y ∈ pre, y.f0 ≠ x.f0 := by
  simp only [fresh, hd, Bool.and_eq_true, decide_eq_true_eq, Bool.not_eq_true', List.any_eq_false]
  constructor
  · rintro ⟨⟨h0, h1⟩, h3⟩
    have e : (x.f0.toNat : Int) = x.f0 := Int.toNat_of_nonneg h0
    refine ⟨⟨h0, h1⟩, fun y hy => ?_⟩
    have := h3 y hy
    rw [e] at this
    exact this
  · rintro ⟨⟨h0, h1⟩, h3⟩
    have e : (x.f0.toNat : Int) = x.f0 := Int.toNat_of_nonneg h0
    rw [e]
    exact ⟨⟨h0, h1⟩, h3⟩

end Go.Proofs.Ytobnehbcnlhchaa.Be
