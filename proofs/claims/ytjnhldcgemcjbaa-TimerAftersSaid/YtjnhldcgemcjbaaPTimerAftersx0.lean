-- PRINTED BY print.sh 35421559b90ae4d0a3588c463048766b98c2df88dd9212a6774a882060cdf62d: not written by this session
import Derived.Test.YtjnhldcgemcjbaaProg
import Derived.Below
import Derived.Deep.Draws
import Derived.Deep.AppendLies
import Derived.Maps.AppendAt
import Derived.OwnWalk
import Derived.Laws.BytesArg
import Derived.Laws.MakeOwn
import Derived.Laws.OwnMore
import Derived.Deep.OwnRows
import Derived.Tactics
import Derived.Lib.ConvBytes
import Derived.Laws.Slices
import Derived.WalkKit
import Derived.KernelRfl
import Derived.RowKit3
import Derived.Deep.LoopGhost
import Derived.Deep.QuietTactic
import Derived.BigQuiet
import Derived.WideLaws
import Derived.Deep.DeepCutAuto
import Derived.Deep.CutBlock
import Derived.Deep.RegionHeld3
import Derived.Laws.Rows
import Derived.Lib.AppendStr
import Derived.ArgAppend
import Derived.Laws.IdiomCopy
import Derived.OrdersHeld
import Derived.Laws.BitsLemmas
import Derived.RowKit
import Derived.Test.YtjnhldcgemcjbaaWWords
import Derived.Test.YtjnhldcgemcjbaaWLast
import Derived.Test.YtjnhldcgemcjbaaWTab
import Derived.Test.YtjnhldcgemcjbaaWFour
import Derived.Test.YtjnhldcgemcjbaaWQPut
import Derived.Test.YtjnhldcgemcjbaaWApart
import Derived.Test.YtjnhldcgemcjbaaWArr
import Derived.Test.YtjnhldcgemcjbaaWZeros
import Derived.Test.YtjnhldcgemcjbaaWFoot
import Derived.Test.YtjnhldcgemcjbaaWKept
import Derived.Test.YtjnhldcgemcjbaaWShare
import Derived.Test.YtjnhldcgemcjbaaWN
import Derived.Test.YtjnhldcgemcjbaaWFootNe
import Derived.Test.YtjnhldcgemcjbaaWAt
import Derived.Test.YtjnhldcgemcjbaaWEqStruct
import Derived.Test.YtjnhldcgemcjbaaWRepsOne
import Derived.Test.YtjnhldcgemcjbaaWInv
import Derived.Test.YtjnhldcgemcjbaaWInvWords
import Derived.Test.YtjnhldcgemcjbaaWGuard
import Derived.Test.YtjnhldcgemcjbaaWNEv
import Derived.Test.YtjnhldcgemcjbaaWMore
namespace Go.Proofs.Ytjnhldcgemcjbaa.PTimerAfters
open Go.RowKit Go.Proofs.YtjnhldcgemcjbaaW.PrintWords Go.Proofs.YtjnhldcgemcjbaaW.PrintLast Go.Proofs.YtjnhldcgemcjbaaW.PrintMore
attribute [local go_sem] max2_int min2_int max_two min_two max_three min_three max_four min_four   -- for this text's walks alone
set_option linter.unusedVariables false
set_option linter.unusedSimpArgs false



def errW : Option Int → Value
  | none => .nilIface
  | some c => .iface 0 (.int .i64 c)
theorem errW_none : errW none = .nilIface := rfl
theorem errW_some (c : Int) : errW (some c) = .iface 0 (.int .i64 c) := rfl

-- the values' own types

end Go.Proofs.Ytjnhldcgemcjbaa.PTimerAfters
