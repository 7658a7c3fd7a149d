/- Words: a word in quotes, walked. Conditions: none. -/
import Derived.Test.YtdhlbdllidfenaaDoorWdD
import Derived.Test.YtdhlbdllidfenaaDoorShelf
import Derived.Deep.DeepCutAuto
import Derived.StillTailTactics
import Derived.WalkMore
namespace Go.Proofs.YtdhlbdllidfenaaDoor.Wd
open Go.RowKit Go.Proofs.YtdhlbdllidfenaaDoor.Mem
set_option linter.unusedVariables false
set_option linter.unusedSimpArgs false
def quoR : QR → Ending
  | .bad p c => .returned (.tuple #[.string ⟨#[]⟩, .int .i64 (p : Int), .int .i64 c])
  | .ok w e => .returned (.tuple #[.string ⟨w.toArray⟩, .int .i64 (e : Int), .int .i64 0])
theorem fr_of {B : Nat} {w w1 : World} (hB : w.heap.size = B) (h : Below B w w1) : Fr No w w1 := by subst hB; exact Fr.of h _
theorem u8_eq (c : UInt8) (k : Nat) : ((c.toNat : Int) == (k : Int)) = decide (c.toNat = k) := by
  rw [Bool.eq_iff_iff, beq_iff_eq, decide_eq_true_eq]; omega
end Go.Proofs.YtdhlbdllidfenaaDoor.Wd
