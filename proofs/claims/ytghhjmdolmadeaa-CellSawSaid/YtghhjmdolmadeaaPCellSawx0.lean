-- PRINTED BY print.sh 35421559b90ae4d0a3588c463048766b98c2df88dd9212a6774a882060cdf62d: not written by this session
import Derived.Test.YtghhjmdolmadeaaProg
import Derived.Below
import Derived.Deep.Draws
import Derived.Deep.AppendLies
import Derived.Maps.AppendAt
import Derived.OwnWalk
import Derived.Laws.BytesArg
import Derived.Laws.MakeOwn
import Derived.Laws.OwnMore
import Derived.Deep.OwnRows
import Derived.Tactics
import Derived.Lib.ConvBytes
import Derived.Laws.Slices
import Derived.WalkKit
import Derived.KernelRfl
import Derived.RowKit3
import Derived.Deep.LoopGhost
import Derived.Deep.QuietTactic
import Derived.BigQuiet
import Derived.WideLaws
import Derived.Deep.DeepCutAuto
import Derived.Deep.CutBlock
import Derived.Deep.RegionHeld3
import Derived.Laws.Rows
import Derived.Lib.AppendStr
import Derived.ArgAppend
import Derived.Laws.IdiomCopy
import Derived.OrdersHeld
import Derived.Laws.BitsLemmas
import Derived.RowKit
import Derived.Test.YtghhjmdolmadeaaWWords
import Derived.Test.YtghhjmdolmadeaaWLast
import Derived.Test.YtghhjmdolmadeaaWTab
import Derived.Test.YtghhjmdolmadeaaWFour
import Derived.Test.YtghhjmdolmadeaaWQPut
import Derived.Test.YtghhjmdolmadeaaWApart
import Derived.Test.YtghhjmdolmadeaaWArr
import Derived.Test.YtghhjmdolmadeaaWZeros
import Derived.Test.YtghhjmdolmadeaaWFoot
import Derived.Test.YtghhjmdolmadeaaWKept
import Derived.Test.YtghhjmdolmadeaaWShare
import Derived.Test.YtghhjmdolmadeaaWN
import Derived.Test.YtghhjmdolmadeaaWFootNe
import Derived.Test.YtghhjmdolmadeaaWAt
import Derived.Test.YtghhjmdolmadeaaWEqStruct
import Derived.Test.YtghhjmdolmadeaaWRepsOne
import Derived.Test.YtghhjmdolmadeaaWInv
import Derived.Test.YtghhjmdolmadeaaWInvWords
import Derived.Test.YtghhjmdolmadeaaWGuard
import Derived.Test.YtghhjmdolmadeaaWNEv
import Derived.Test.YtghhjmdolmadeaaWMore
namespace Go.Proofs.Ytghhjmdolmadeaa.PCellSaw
open Go.RowKit Go.Proofs.YtghhjmdolmadeaaW.PrintWords Go.Proofs.YtghhjmdolmadeaaW.PrintLast Go.Proofs.YtghhjmdolmadeaaW.PrintMore
attribute [local go_sem] max2_int min2_int max_two min_two max_three min_three max_four min_four   -- for this text's walks alone
set_option linter.unusedVariables false
set_option linter.unusedSimpArgs false



def errW : Option Int → Value
  | none => .nilIface
  | some c => .iface 0 (.int .i64 c)
theorem errW_none : errW none = .nilIface := rfl
theorem errW_some (c : Int) : errW (some c) = .iface 0 (.int .i64 c) := rfl

-- the values' own types

end Go.Proofs.Ytghhjmdolmadeaa.PCellSaw
