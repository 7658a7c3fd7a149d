/- The law VotesReach: the walk, as its row calls it. Conditions: none. -/
import Derived.Test.YtkgamiojoekegabVtH
import Derived.Test.YtkgamiojoekegabBeU
namespace Go.Proofs.Ytkgamiojoekegab.Vt
open Go.RowKit Go.Proofs.YtkgamiojoekegabW.PrintWords
theorem reach_row (w : World) (a0 : Int) (w0 : (Lit.int .i64 a0).wf = true) (Ap : Option Addr) (cp : Nat) (ps : List Int) (hP : Kd.C Opn.kI w Ap ps.length ps) (_h4 : ps.length ≤ cp) (h5 : cp * 8 ≤ 140737488351232) (h6 : ∀ p ∈ ps, Opn.WfI p)
    (a2 : Int) (w2 : (Lit.int .i64 a2).wf = true) (a3 : Int) (w3 : (Lit.int .i64 a3).wf = true) :
    Calls Try.prog 9 #[.int .i64 a0, .slice Ap ps.length cp, .int .i64 a2, .int .i64 a3] w fun e w' => e = .returned (.bool true) ∧ Below w.heap.size w w' :=
  reach_walk a0 a2 a3 w0 w2 w3 Ap cp ps w hP (by omega) h6
end Go.Proofs.Ytkgamiojoekegab.Vt
