/- strings.Builder: what a writing method checks first, and WriteByte, walked at this program (the steps are the kit's own for any program). Conditions: none. -/
import Derived.Test.YtdhlbdllidfenaaDoorWdC
import Derived.Lib.Strings
import Derived.Lib.Builder
import Derived.Laws.Externs
import Derived.OwnWalk
namespace Go.Proofs.YtdhlbdllidfenaaDoor.Wd
open Go.RowKit Go.Proofs.YtdhlbdllidfenaaDoor.Mem
set_option linter.unusedVariables false
set_option linter.unusedSimpArgs false
theorem info8w : (Tryd.prog.info? 5).map (fun i => (i.zero, i.size, i.bytes)) = some (some (.int .u8 0), 1, 1) := by kernel_rfl
end Go.Proofs.YtdhlbdllidfenaaDoor.Wd
