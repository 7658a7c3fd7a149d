/- New, Add, Get of a tally of numbers, as the document's example calls them. Conditions: none. -/
import Derived.Test.YtkgamiojoekegabVtA
import Derived.Test.YtkgamiojoekegabPVotesConfigsx1
import Derived.BigQuiet
import Derived.Deep.QuietTactic
import Derived.Outline
namespace Go.Proofs.Ytkgamiojoekegab.Vt
open Go.RowKit Go.Proofs.YtkgamiojoekegabW.PrintWords Go.Proofs.Ytkgamiojoekegab.PVotesConfigs
set_option linter.unusedVariables false

theorem within_yes (a b c : Int) (w : World) (h1 : b ≤ a) (h2 : a ≤ c) : Calls Try.prog 67 #[.int .i64 a, .int .i64 b, .int .i64 c] w fun e w' => e = .returned (.bool true) ∧ Below w.heap.size w w' := by
  refine (votes_within.calls a b c true w ?_).mono fun e w' h => ⟨h.1, h.2.below⟩
  unfold votes_within.f
  simp [h1, h2]

theorem new62 (w : World) : Calls Try.prog 62 #[.int .i64 3] w fun e w' => ∃ g, e = .returned (.tuple #[.pointer (some ⟨g, 0, none⟩), .int .i64 0]) ∧ w.heap.size ≤ g ∧ Tl w' g 3 [(false, 0), (false, 0), (false, 0), (false, 0), (false, 0), (false, 0), (false, 0)] ∧ Below w.heap.size w w' := by
  go_enter Try.func62, Try.ntmps62
  go_wp2_with fail
  refine (within_yes 3 1 7 w (by omega) (by omega)).mono ?_
  rintro e w1 ⟨rfl, hB⟩
  go_wp2
  go_ret2
  exact ⟨w1.heap.size, rfl, hB.size, ⟨Blk.new w1 _, rfl⟩, hB.alloc hB.size _⟩

set_option maxHeartbeats 1000000 in
theorem add63 (g : Nat) (p0 p1 p2 p3 p4 p5 p6 : Bool × Int) (v : Int) (w : World) (hT : Tl w g 3 [p0, p1, p2, p3, p4, p5, p6]) : Calls Try.prog 63 #[.pointer (some ⟨g, 0, none⟩), .int .i64 1, .int .i64 v] w fun e w' =>
    e = .returned (.tuple #[.bool (!p1.1), .int .i64 0]) ∧ Tl w' g 3 [p0, (true, v), p2, p3, p4, p5, p6] ∧ ∀ b, b ≤ g → Below b w w' := by
  have c0 := Blk.cell hT.1 0
  simp [cellsT] at c0
  go_enter Try.func63, Try.ntmps63
  go_wp2_with fail
  refine (within_yes 1 0 2 w (by omega) (by omega)).mono ?_
  rintro e w1 ⟨rfl, hB⟩
  have hT1 := hT.keep (hB.block g hT.lt)
  have c3 := Blk.cell hT1.1 3
  have c4 := Blk.cell hT1.1 4
  have f3 := Blk.frozen hT1.1 3
  have f4 := Blk.frozen hT1.1 4
  simp [cellsT] at c3 c4
  go_wp2
  go_ret2
  refine ⟨rfl, ⟨(Blk.set (Blk.set hT1.1 3 (.bool true)) 4 (.int .i64 v)).trans (by simp [cellsT]), rfl⟩, fun b hb => ?_⟩
  exact ((hB.mono (by have := hT.lt; omega)).setCell (p := ⟨g, 3, none⟩) hb _).setCell (p := ⟨g, 4, none⟩) hb _

set_option maxHeartbeats 1000000 in
theorem get64 (g : Nat) (p0 p1 p2 p3 p4 p5 p6 : Bool × Int) (w : World) (hT : Tl w g 3 [p0, p1, p2, p3, p4, p5, p6]) : Calls Try.prog 64 #[.pointer (some ⟨g, 0, none⟩), .int .i64 1] w fun e w' =>
    e = .returned (.tuple #[.int .i64 p1.2, .bool p1.1]) ∧ Below w.heap.size w w' := by
  have c0 := Blk.cell hT.1 0
  simp [cellsT] at c0
  go_enter Try.func64, Try.ntmps64
  go_wp2_with fail
  refine (within_yes 1 0 2 w (by omega) (by omega)).mono ?_
  rintro e w1 ⟨rfl, hB⟩
  have hT1 := hT.keep (hB.block g hT.lt)
  have c3 := Blk.cell hT1.1 3
  have c4 := Blk.cell hT1.1 4
  simp [cellsT] at c3 c4
  go_wp2
  go_quiet (fail)
  go_wp2
  go_ret2
  exact ⟨rfl, pw_below_drewN hB _⟩
end Go.Proofs.Ytkgamiojoekegab.Vt
