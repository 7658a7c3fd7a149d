/- The law VotesNames: its walk. Conditions: none. -/
import Derived.Test.YtkgamiojoekegabVtC
namespace Go.Proofs.Ytkgamiojoekegab.Vt
open Go.RowKit Go.Proofs.YtkgamiojoekegabW.PrintWords Go.Proofs.Ytkgamiojoekegab.PVotesConfigs
theorem names_walk (w : World) : Calls Try.prog 10 #[] w fun e w' => e = .returned (.bool true) ∧ Below w.heap.size w w' := by
  go_enter Try.func10, Try.ntmps10
  go_wp2_with fail
  refine (shown28 w).mono ?_
  rintro e w1 ⟨rfl, hB⟩
  go_wp2
  go_ret
  exact ⟨rfl, hB⟩
end Go.Proofs.Ytkgamiojoekegab.Vt
