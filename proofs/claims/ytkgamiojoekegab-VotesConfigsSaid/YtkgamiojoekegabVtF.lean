/- The law VotesConfigs: its walk. Conditions: none. -/
import Derived.Test.YtkgamiojoekegabVtC
import Derived.Test.YtkgamiojoekegabVtP
namespace Go.Proofs.Ytkgamiojoekegab.Vt
open Go.RowKit Go.Proofs.YtkgamiojoekegabW.PrintWords Go.Proofs.Ytkgamiojoekegab.PVotesConfigs
set_option linter.unusedVariables false

set_option maxHeartbeats 1000000 in
theorem configs_walk (a b c d e f g h i j : Int) (w : World) : Calls Try.prog 6 #[.agg #[.int .i64 a, .int .i64 b, .int .i64 c, .int .i64 d, .int .i64 e, .int .i64 f, .int .i64 g, .int .i64 h, .int .i64 i, .int .i64 j]] w fun e w' => e = .returned (.bool true) ∧ Below w.heap.size w w' := by
  have H1 := Lib.hid (fun W => votes_CheckConfig.calls 9 a b c d e f g h i j _ W (cfg_v a b c d e f g h i j))
  have H2 := Lib.hid (fun W => flotillaref04_CheckConfig.calls 9 a b c d e f g h i j _ W (cfg_r a b c d e f g h i j))
  obtain ⟨r, hr⟩ : ∃ r : Int, (if okC a b c d e f g h i j then 0 else 42) = r := ⟨_, rfl⟩
  rw [hr] at H1 H2
  clear hr
  go_enter Try.func6, Try.ntmps6
  go_wp2_with fail
  refine (shown28 _).mono ?_
  rintro e1 w1 ⟨rfl, hb1⟩
  have hB1 : Below w.heap.size w w1 := ((Below.refl _ _).alloc (Nat.le_refl _) _).trans (hb1.mono (by simp))
  have hk := (hb1.block w.heap.size (by simp)).trans (Blk.new w _)
  clear hb1
  have c0 := Blk.cell hk 0
  have c1 := Blk.cell hk 1
  have c2 := Blk.cell hk 2
  have c3 := Blk.cell hk 3
  have c4 := Blk.cell hk 4
  have c5 := Blk.cell hk 5
  have c6 := Blk.cell hk 6
  have c7 := Blk.cell hk 7
  have c8 := Blk.cell hk 8
  have c9 := Blk.cell hk 9
  simp at c0 c1 c2 c3 c4 c5 c6 c7 c8 c9
  go_wp2_with fail
  refine (H1.out _).mono ?_
  rintro e2 w2 ⟨rfl, hb2⟩
  have hlt : w.heap.size < w1.heap.size := Blk.lt hk
  have hB2 : Below w.heap.size w w2 := hB1.trans (hb2.mono (by omega))
  have hk2 := (hb2.block w.heap.size hlt).trans hk
  clear hb2 hk c0 c1 c2 c3 c4 c5 c6 c7 c8 c9
  have c0 := Blk.cell hk2 0
  have c1 := Blk.cell hk2 1
  have c2 := Blk.cell hk2 2
  have c3 := Blk.cell hk2 3
  have c4 := Blk.cell hk2 4
  have c5 := Blk.cell hk2 5
  have c6 := Blk.cell hk2 6
  have c7 := Blk.cell hk2 7
  have c8 := Blk.cell hk2 8
  have c9 := Blk.cell hk2 9
  simp at c0 c1 c2 c3 c4 c5 c6 c7 c8 c9
  go_wp2_with fail
  refine (H2.out _).mono ?_
  rintro e3 w3 ⟨rfl, hb3⟩
  have hB3 : Below w.heap.size w w3 := hB2.trans (hb3.mono hB2.size)
  go_wp2
  go_ret
  exact ⟨by simp, hB3⟩
end Go.Proofs.Ytkgamiojoekegab.Vt
