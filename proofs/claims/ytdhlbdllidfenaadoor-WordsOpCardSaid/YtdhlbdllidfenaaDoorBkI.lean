/- Words: what Split answers, of any line, twice over, and of another line between; what was handed out belongs to the caller: the walk. Conditions: none. -/
import Derived.Test.YtdhlbdllidfenaaDoorBkH
namespace Go.Proofs.YtdhlbdllidfenaaDoor.Wd
open Go.RowKit Go.Proofs.YtdhlbdllidfenaaDoor.Mem
set_option linter.unusedVariables false
set_option linter.unusedSimpArgs false
theorem shownS : splitL (bs ⟨#[97, 32, 34, 98, 32, 99, 34]⟩) = ([[97], [98, 32, 99]], 0, 0) := by decide +kernel
theorem Bok.first {B : Nat → Prop} {hb : Nat} {w : World} (h : Bk w hb 32 [.slice none 0 0, .slice none 0 0, .int .i64 ((0 : Nat) : Int)]) (hB : B hb) : Bok B w hb none none 0 [] [] [] [] :=
  ⟨⟨_, _, h, Row.nil _ _ _, Row.nil _ _ _⟩, rfl, rfl, rfl, rfl, fun x hx => (by simp at hx), fun x hx => (by simp at hx), List.Pairwise.nil, fun k hk => (by cases hk), hB, fun k hk => (by cases hk), fun k hk => (by cases hk), fun x hx => (by simp at hx), fun x hx => (by simp at hx)⟩
theorem Small.more {oo of : List TL} {n : Nat} {x : TL} (h : (oo ++ of).length ≤ n ∧ ∀ z ∈ oo ++ of, z.d.length ≤ 10000) (hx : x.d.length ≤ 8192) : (oo ++ (of ++ [x])).length ≤ n + 1 ∧ ∀ z ∈ oo ++ (of ++ [x]), z.d.length ≤ 10000 := by
  rw [← List.append_assoc]
  refine ⟨by rw [List.length_append, List.length_singleton]; omega, fun z hz => ?_⟩
  rcases List.mem_append.1 hz with hz | hz
  · exact h.2 z hz
  · rw [List.mem_singleton.1 hz]; omega
end Go.Proofs.YtdhlbdllidfenaaDoor.Wd
