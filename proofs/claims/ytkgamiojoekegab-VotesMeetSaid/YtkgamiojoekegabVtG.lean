/- The helper 'pick'. Conditions: none. -/
import Derived.Test.YtkgamiojoekegabVtC
import Derived.Test.YtkgamiojoekegabVtR
namespace Go.Proofs.Ytkgamiojoekegab.Vt
open Go.RowKit Go.Proofs.YtkgamiojoekegabW.PrintWords Go.Proofs.Ytkgamiojoekegab.PVotesConfigs
set_option linter.unusedVariables false
def pickS (c n : Int) : Int := (if c < 0 then -(c + 1) else c) % n
theorem pickS_ge (c n : Int) (h : 0 < n) : 0 ≤ pickS c n := Int.emod_nonneg _ (by omega)
theorem pickS_lt (c n : Int) (h : 0 < n) : pickS c n < n := Int.emod_lt_of_pos _ h
theorem pick39 (c n : Int) (w : World) (hc : (Lit.int .i64 c).wf = true) (h : 0 < n) (hn : n ≤ 9223372036854775807) : Calls Try.prog 39 #[.int .i64 c, .int .i64 n] w fun e w' => e = .returned (.int .i64 (pickS c n)) ∧ w' = w := by
  have hx : -9223372036854775808 ≤ c ∧ c ≤ 9223372036854775807 := by simpa [Lit.wf, IntKind.min, IntKind.max, IntKind.signed, IntKind.bits] using hc
  have hlt := pickS_lt c n h
  have hge := pickS_ge c n h
  by_cases hneg : c < 0
  · have h1 : IntKind.i64.wrap (c + 1) = c + 1 := IntWalk.i64_in _ (by omega)
    have h2 : IntKind.i64.wrap (-(c + 1)) = -(c + 1) := IntWalk.i64_in _ (by omega)
    have hd : decide (c < 0) = true := decide_eq_true hneg
    have hz : (n == 0) = false := by simp; omega
    have h3 : Int.tmod (-(c + 1)) n = pickS c n := by rw [pickS, if_pos hneg, Int.tmod_eq_emod_of_nonneg (by omega)]
    have h4 : IntKind.i64.wrap (pickS c n) = pickS c n := IntWalk.i64_in _ (by omega)
    go_enter Try.func39, Try.ntmps39
    go_wp2
    go_ret
    exact ⟨rfl, rfl⟩
  · have hd : decide (c < 0) = false := decide_eq_false hneg
    have hz : (n == 0) = false := by simp; omega
    have h3 : Int.tmod c n = pickS c n := by rw [pickS, if_neg hneg, Int.tmod_eq_emod_of_nonneg (by omega)]
    have h4 : IntKind.i64.wrap (pickS c n) = pickS c n := IntWalk.i64_in _ (by omega)
    go_enter Try.func39, Try.ntmps39
    go_wp2
    go_ret
    exact ⟨rfl, rfl⟩
end Go.Proofs.Ytkgamiojoekegab.Vt
