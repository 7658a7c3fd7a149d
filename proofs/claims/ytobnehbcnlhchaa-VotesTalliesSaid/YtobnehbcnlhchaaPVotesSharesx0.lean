-- PRINTED BY print.sh 35421559b90ae4d0a3588c463048766b98c2df88dd9212a6774a882060cdf62d: not written by this session
import Derived.Test.YtobnehbcnlhchaaProg
import Derived.Below
import Derived.Deep.Draws
import Derived.Deep.AppendLies
import Derived.Maps.AppendAt
import Derived.OwnWalk
import Derived.Laws.BytesArg
import Derived.Laws.MakeOwn
import Derived.Laws.OwnMore
import Derived.Deep.OwnRows
import Derived.Tactics
import Derived.Lib.ConvBytes
import Derived.Laws.Slices
import Derived.WalkKit
import Derived.KernelRfl
import Derived.RowKit3
import Derived.Deep.LoopGhost
import Derived.Deep.QuietTactic
import Derived.BigQuiet
import Derived.WideLaws
import Derived.Deep.DeepCutAuto
import Derived.Deep.CutBlock
import Derived.Deep.RegionHeld3
import Derived.Laws.Rows
import Derived.Lib.AppendStr
import Derived.ArgAppend
import Derived.Laws.IdiomCopy
import Derived.OrdersHeld
import Derived.Laws.BitsLemmas
import Derived.RowKit
import Derived.Test.YtobnehbcnlhchaaWWords
import Derived.Test.YtobnehbcnlhchaaWLast
import Derived.Test.YtobnehbcnlhchaaWTab
import Derived.Test.YtobnehbcnlhchaaWFour
import Derived.Test.YtobnehbcnlhchaaWQPut
import Derived.Test.YtobnehbcnlhchaaWApart
import Derived.Test.YtobnehbcnlhchaaWArr
import Derived.Test.YtobnehbcnlhchaaWZeros
import Derived.Test.YtobnehbcnlhchaaWFoot
import Derived.Test.YtobnehbcnlhchaaWKept
import Derived.Test.YtobnehbcnlhchaaWShare
import Derived.Test.YtobnehbcnlhchaaWN
import Derived.Test.YtobnehbcnlhchaaWFootNe
import Derived.Test.YtobnehbcnlhchaaWAt
import Derived.Test.YtobnehbcnlhchaaWEqStruct
import Derived.Test.YtobnehbcnlhchaaWRepsOne
import Derived.Test.YtobnehbcnlhchaaWInv
import Derived.Test.YtobnehbcnlhchaaWInvWords
import Derived.Test.YtobnehbcnlhchaaWGuard
import Derived.Test.YtobnehbcnlhchaaWNEv
import Derived.Test.YtobnehbcnlhchaaWMore
namespace Go.Proofs.Ytobnehbcnlhchaa.PVotesShares
open Go.RowKit Go.Proofs.YtobnehbcnlhchaaW.PrintWords Go.Proofs.YtobnehbcnlhchaaW.PrintLast Go.Proofs.YtobnehbcnlhchaaW.PrintMore
attribute [local go_sem] max2_int min2_int max_two min_two max_three min_three max_four min_four   -- for this text's walks alone
set_option linter.unusedVariables false
set_option linter.unusedSimpArgs false



def errW : Option Int → Value
  | none => .nilIface
  | some c => .iface 0 (.int .i64 c)
theorem errW_none : errW none = .nilIface := rfl
theorem errW_some (c : Int) : errW (some c) = .iface 0 (.int .i64 c) := rfl

-- the values' own types

end Go.Proofs.Ytobnehbcnlhchaa.PVotesShares
