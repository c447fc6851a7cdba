-- PRINTED BY print.sh 35421559b90ae4d0a3588c463048766b98c2df88dd9212a6774a882060cdf62d: not written by this session
import Derived.Test.YtdfbdjlcbjdabaaProg
import Derived.Below
import Derived.Deep.Draws
import Derived.Deep.AppendLies
import Derived.Maps.AppendAt
import Derived.OwnWalk
import Derived.Laws.BytesArg
import Derived.Laws.MakeOwn
import Derived.Laws.OwnMore
import Derived.Deep.OwnRows
import Derived.Tactics
import Derived.Lib.ConvBytes
import Derived.Laws.Slices
import Derived.WalkKit
import Derived.KernelRfl
import Derived.RowKit3
import Derived.Deep.LoopGhost
import Derived.Deep.QuietTactic
import Derived.BigQuiet
import Derived.WideLaws
import Derived.Deep.DeepCutAuto
import Derived.Deep.CutBlock
import Derived.Deep.RegionHeld3
import Derived.Laws.Rows
import Derived.Lib.AppendStr
import Derived.ArgAppend
import Derived.Laws.IdiomCopy
import Derived.OrdersHeld
import Derived.Laws.BitsLemmas
import Derived.RowKit
import Derived.Test.YtdfbdjlcbjdabaaWWords
import Derived.Test.YtdfbdjlcbjdabaaWLast
import Derived.Test.YtdfbdjlcbjdabaaWTab
import Derived.Test.YtdfbdjlcbjdabaaWFour
import Derived.Test.YtdfbdjlcbjdabaaWQPut
import Derived.Test.YtdfbdjlcbjdabaaWApart
import Derived.Test.YtdfbdjlcbjdabaaWArr
import Derived.Test.YtdfbdjlcbjdabaaWZeros
import Derived.Test.YtdfbdjlcbjdabaaWFoot
import Derived.Test.YtdfbdjlcbjdabaaWKept
import Derived.Test.YtdfbdjlcbjdabaaWShare
import Derived.Test.YtdfbdjlcbjdabaaWN
import Derived.Test.YtdfbdjlcbjdabaaWFootNe
import Derived.Test.YtdfbdjlcbjdabaaWAt
import Derived.Test.YtdfbdjlcbjdabaaWEqStruct
import Derived.Test.YtdfbdjlcbjdabaaWRepsOne
import Derived.Test.YtdfbdjlcbjdabaaWInv
import Derived.Test.YtdfbdjlcbjdabaaWInvWords
import Derived.Test.YtdfbdjlcbjdabaaWGuard
import Derived.Test.YtdfbdjlcbjdabaaWNEv
import Derived.Test.YtdfbdjlcbjdabaaWMore
namespace Go.Proofs.Ytdfbdjlcbjdabaa.PTableHeads
open Go.RowKit Go.Proofs.YtdfbdjlcbjdabaaW.PrintWords Go.Proofs.YtdfbdjlcbjdabaaW.PrintLast Go.Proofs.YtdfbdjlcbjdabaaW.PrintMore
attribute [local go_sem] max2_int min2_int max_two min_two max_three min_three max_four min_four   -- for this text's walks alone
set_option linter.unusedVariables false
set_option linter.unusedSimpArgs false



def errW : Option Int → Value
  | none => .nilIface
  | some c => .iface 0 (.int .i64 c)
theorem errW_none : errW none = .nilIface := rfl
theorem errW_some (c : Int) : errW (some c) = .iface 0 (.int .i64 c) := rfl

-- the values' own types

end Go.Proofs.Ytdfbdjlcbjdabaa.PTableHeads
