/- Words: how the reference writes a word, walked. Conditions: none. -/
import Derived.Test.YtdhlbdllidfenaaDoorWdH
namespace Go.Proofs.YtdhlbdllidfenaaDoor.Wd
open Go.RowKit Go.Proofs.YtdhlbdllidfenaaDoor.Mem
set_option linter.unusedVariables false
set_option linter.unusedSimpArgs false
end Go.Proofs.YtdhlbdllidfenaaDoor.Wd
