-- PRINTED BY print.sh 35421559b90ae4d0a3588c463048766b98c2df88dd9212a6774a882060cdf62d: not written by this session
import Derived.Test.YtkgamiojoekegaaProg
import Derived.Below
import Derived.Deep.Draws
import Derived.Deep.AppendLies
import Derived.Maps.AppendAt
import Derived.OwnWalk
import Derived.Laws.BytesArg
import Derived.Laws.MakeOwn
import Derived.Laws.OwnMore
import Derived.Deep.OwnRows
import Derived.Tactics
import Derived.Lib.ConvBytes
import Derived.Laws.Slices
import Derived.WalkKit
import Derived.KernelRfl
import Derived.RowKit3
import Derived.Deep.LoopGhost
import Derived.Deep.QuietTactic
import Derived.BigQuiet
import Derived.WideLaws
import Derived.Deep.DeepCutAuto
import Derived.Deep.CutBlock
import Derived.Deep.RegionHeld3
import Derived.Laws.Rows
import Derived.Lib.AppendStr
import Derived.ArgAppend
import Derived.Laws.IdiomCopy
import Derived.OrdersHeld
import Derived.Laws.BitsLemmas
import Derived.RowKit
import Derived.Test.YtkgamiojoekegaaWWords
import Derived.Test.YtkgamiojoekegaaWLast
import Derived.Test.YtkgamiojoekegaaWTab
import Derived.Test.YtkgamiojoekegaaWFour
import Derived.Test.YtkgamiojoekegaaWQPut
import Derived.Test.YtkgamiojoekegaaWApart
import Derived.Test.YtkgamiojoekegaaWArr
import Derived.Test.YtkgamiojoekegaaWZeros
import Derived.Test.YtkgamiojoekegaaWFoot
import Derived.Test.YtkgamiojoekegaaWKept
import Derived.Test.YtkgamiojoekegaaWShare
import Derived.Test.YtkgamiojoekegaaWN
import Derived.Test.YtkgamiojoekegaaWFootNe
import Derived.Test.YtkgamiojoekegaaWAt
import Derived.Test.YtkgamiojoekegaaWEqStruct
import Derived.Test.YtkgamiojoekegaaWRepsOne
import Derived.Test.YtkgamiojoekegaaWInv
import Derived.Test.YtkgamiojoekegaaWInvWords
import Derived.Test.YtkgamiojoekegaaWGuard
import Derived.Test.YtkgamiojoekegaaWNEv
import Derived.Test.YtkgamiojoekegaaWMore
namespace Go.Proofs.Ytkgamiojoekegaa.PChooseMore
open Go.RowKit Go.Proofs.YtkgamiojoekegaaW.PrintWords Go.Proofs.YtkgamiojoekegaaW.PrintLast Go.Proofs.YtkgamiojoekegaaW.PrintMore
attribute [local go_sem] max2_int min2_int max_two min_two max_three min_three max_four min_four   -- for this text's walks alone
set_option linter.unusedVariables false
set_option linter.unusedSimpArgs false



def errW : Option Int → Value
  | none => .nilIface
  | some c => .iface 0 (.int .i64 c)
theorem errW_none : errW none = .nilIface := rfl
theorem errW_some (c : Int) : errW (some c) = .iface 0 (.int .i64 c) := rfl

-- the values' own types

end Go.Proofs.Ytkgamiojoekegaa.PChooseMore
