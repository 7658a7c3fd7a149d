/- Words: a word in quotes, as the reference reads it, walked. Conditions: none. -/
import Derived.Test.YtdhlbdllidfenaaDoorWdR
namespace Go.Proofs.YtdhlbdllidfenaaDoor.Wd
open Go.RowKit Go.Proofs.YtdhlbdllidfenaaDoor.Mem
set_option linter.unusedVariables false
set_option linter.unusedSimpArgs false
end Go.Proofs.YtdhlbdllidfenaaDoor.Wd
