/- VotesShares: how the numbers that come in lie; the walk as the row asks it. Conditions: none. -/
import Derived.Test.YtobnehbcnlhchaaVtX
import Derived.Test.YtobnehbcnlhchaaOpn
namespace Go.Proofs.Ytobnehbcnlhchaa.Opn
open Go.ChangeShapes Go.WideShapes Go.ChangeAt Go.RowKit Go.Deep Go.Proofs.Ytobnehbcnlhchaa.Mem
set_option linter.unusedVariables false
theorem ints {H : Type} {enc : TypeId × Value → H} {W : World} {A : Option Addr} {len cap : Nat} {dd : DataW H} {ps : List MemPlace} (hS : Sz Try.prog 22 dd) (h : DataW.Trod enc Try.prog W 0 (fun _ => true) true 22 (.slice A len cap) dd ps) :
    ∃ xs : List Int, xs.length = len ∧ Vt.IR W A xs ∧ len ≤ cap ∧ cap * 8 ≤ 140737488351232 := by
  obtain ⟨xs, h1, h2, h3, h4, _⟩ := ints_gen Try.underlying22 Try.underlying3 (by kernel_rfl) hS h
  rw [show Try.prog.bytesOf 3 = 8 by kernel_rfl] at h4
  refine ⟨xs, h1, fun hl => ?_, h3, h4⟩
  obtain ⟨a, hA, _⟩ := h2 0 xs[0] (by simp [hl])
  refine ⟨a, hA, fun j u hj => ?_⟩
  rw [Vt.iv, List.getElem?_map] at hj
  rcases hq : xs[j]? with _ | x
  · rw [hq] at hj; cases hj
  · rw [hq] at hj
    simp only [Option.map_some, Option.some.injEq] at hj
    subst hj
    obtain ⟨a', hA', hc, _⟩ := h2 j x hq
    rw [hA] at hA'
    cases hA'
    exact hc
end Go.Proofs.Ytobnehbcnlhchaa.Opn
namespace Go.Proofs.Ytobnehbcnlhchaa.Vt
open Go.RowKit Go.Proofs.Ytobnehbcnlhchaa.Mem
set_option linter.unusedVariables false in
theorem shares_row (w : World) (A : Option Addr) (cap : Nat) (l : List Int) (hC : IR w A l) (hlc : l.length ≤ cap) (hby : cap * 8 ≤ 140737488351232) (v : Int) (hv : (Lit.int .i64 v).wf = true) :
    Calls Try.prog 3 #[.slice A l.length cap, .int .i64 v] w fun e w' => e = .returned (.bool true) ∧ Below w.heap.size w w' :=
  shares_walk w A l.length cap l rfl hC (by omega) v
end Go.Proofs.Ytobnehbcnlhchaa.Vt
