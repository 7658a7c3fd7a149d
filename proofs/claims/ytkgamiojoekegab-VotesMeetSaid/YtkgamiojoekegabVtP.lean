/- Which configs may be: the program's answer is the document's. No program here. Conditions: none. -/
import Derived.Test.YtkgamiojoekegabPVotesConfigsx1
import Derived.Test.YtkgamiojoekegabPVotesConfigsx2
import Derived.Test.YtkgamiojoekegabPVotesConfigsx3
import Derived.Test.YtkgamiojoekegabPVotesConfigsx4
namespace Go.Proofs.Ytkgamiojoekegab.Vt
open Go.RowKit Go.Proofs.YtkgamiojoekegabW.PrintWords Go.Proofs.Ytkgamiojoekegab.PVotesConfigs
set_option linter.unusedVariables false

def isIn (a b c : Int) : Bool := decide (b ≤ a) && decide (a ≤ c)
def fl (n : Int) : Bool := n == 3 || n == 5 || n == 7
theorem within_f (a b c : Int) : votes_within.f a b c = some (isIn a b c) := by
  unfold votes_within.f isIn
  by_cases h : a ≥ b
  · rw [if_pos h]; simp [h]
  · rw [if_neg h]; simp; omega
theorem rwithin_f (a b c : Int) : flotillaref04_within.f a b c = some (isIn a b c) := by
  unfold flotillaref04_within.f isIn
  by_cases h : a ≥ b
  · rw [if_pos h]; simp [h]
  · rw [if_neg h]; simp; omega
theorem fl_f (n : Int) : votes_fleet.f n = some (fl n) := by
  unfold votes_fleet.f fl
  by_cases h : n = 3
  · simp [h]
  · by_cases h5 : n = 5
    · simp [h5]
    · simp [h, h5]
def okC (a b c d e f g h i j : Int) : Bool := fl a && isIn b 1 8 && isIn c 1 16 && isIn d 1 16 && isIn e (wrap64 (c + 1)) 256 && isIn f e 1024 && isIn g 1 f && isIn i 2 64 && isIn h 1 (wrap64 (i - 1)) && isIn j 1 8
theorem cfg_v (a b c d e f g h i j : Int) : votes_CheckConfig.f 9 a b c d e f g h i j = some (if okC a b c d e f g h i j then 0 else 42) := by
  unfold votes_CheckConfig.f okC
  simp only [votes_CheckConfig.j0, votes_CheckConfig.j1, votes_CheckConfig.j2, within_f, fl_f, Option.bind_some]
  generalize fl a = x0, isIn b 1 8 = x1, isIn c 1 16 = x2, isIn d 1 16 = x3, isIn e (wrap64 (c + 1)) 256 = x4, isIn f e 1024 = x5, isIn g 1 f = x6, isIn i 2 64 = x7, isIn h 1 (wrap64 (i - 1)) = x8, isIn j 1 8 = x9
  cases x0 <;> try rfl
  cases x1 <;> try rfl
  cases x2 <;> try rfl
  cases x3 <;> try rfl
  cases x4 <;> try rfl
  cases x5 <;> try rfl
  cases x6 <;> try rfl
  cases x7 <;> try rfl
  cases x8 <;> try rfl
  cases x9 <;> rfl
theorem cfg_r (a b c d e f g h i j : Int) : flotillaref04_CheckConfig.f 9 a b c d e f g h i j = some (if okC a b c d e f g h i j then 0 else 42) := by
  have hf : ∀ (x y : Option Int), (if a = 3 then x else if a = 5 then x else y) = (if (a == 3 || a == 5) then x else y) := by
    intro x y
    by_cases h3 : a = 3
    · simp [h3]
    · by_cases h5 : a = 5
      · simp [h5]
      · simp [h3, h5]
  unfold flotillaref04_CheckConfig.f okC
  rw [hf]
  have hfl : fl a = ((a == 3 || a == 5) || a == 7) := rfl
  rw [hfl]
  simp only [flotillaref04_CheckConfig.j0, flotillaref04_CheckConfig.j1, flotillaref04_CheckConfig.j2, rwithin_f, Option.bind_some]
  generalize (a == 3 || a == 5) = xa, (a == 7) = xb, isIn b 1 8 = x1, isIn c 1 16 = x2, isIn d 1 16 = x3, isIn e (wrap64 (c + 1)) 256 = x4, isIn f e 1024 = x5, isIn g 1 f = x6, isIn i 2 64 = x7, isIn h 1 (wrap64 (i - 1)) = x8, isIn j 1 8 = x9
  revert xa xb x1 x2 x3 x4 x5 x6 x7 x8 x9
  decide
end Go.Proofs.Ytkgamiojoekegab.Vt
