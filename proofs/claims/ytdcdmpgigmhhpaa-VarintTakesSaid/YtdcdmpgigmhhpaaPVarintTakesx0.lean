-- PRINTED BY print.sh 35421559b90ae4d0a3588c463048766b98c2df88dd9212a6774a882060cdf62d: not written by this session
import Derived.Test.YtdcdmpgigmhhpaaProg
import Derived.Below
import Derived.Deep.Draws
import Derived.Deep.AppendLies
import Derived.Maps.AppendAt
import Derived.OwnWalk
import Derived.Laws.BytesArg
import Derived.Laws.MakeOwn
import Derived.Laws.OwnMore
import Derived.Deep.OwnRows
import Derived.Tactics
import Derived.Lib.ConvBytes
import Derived.Laws.Slices
import Derived.WalkKit
import Derived.KernelRfl
import Derived.RowKit3
import Derived.Deep.LoopGhost
import Derived.Deep.QuietTactic
import Derived.BigQuiet
import Derived.WideLaws
import Derived.Deep.DeepCutAuto
import Derived.Deep.CutBlock
import Derived.Deep.RegionHeld3
import Derived.Laws.Rows
import Derived.Lib.AppendStr
import Derived.ArgAppend
import Derived.Laws.IdiomCopy
import Derived.OrdersHeld
import Derived.Laws.BitsLemmas
import Derived.RowKit
import Derived.Test.YtdcdmpgigmhhpaaWWords
import Derived.Test.YtdcdmpgigmhhpaaWLast
import Derived.Test.YtdcdmpgigmhhpaaWTab
import Derived.Test.YtdcdmpgigmhhpaaWFour
import Derived.Test.YtdcdmpgigmhhpaaWQPut
import Derived.Test.YtdcdmpgigmhhpaaWApart
import Derived.Test.YtdcdmpgigmhhpaaWArr
import Derived.Test.YtdcdmpgigmhhpaaWZeros
import Derived.Test.YtdcdmpgigmhhpaaWFoot
import Derived.Test.YtdcdmpgigmhhpaaWKept
import Derived.Test.YtdcdmpgigmhhpaaWShare
import Derived.Test.YtdcdmpgigmhhpaaWN
import Derived.Test.YtdcdmpgigmhhpaaWFootNe
import Derived.Test.YtdcdmpgigmhhpaaWAt
import Derived.Test.YtdcdmpgigmhhpaaWEqStruct
import Derived.Test.YtdcdmpgigmhhpaaWRepsOne
import Derived.Test.YtdcdmpgigmhhpaaWInv
import Derived.Test.YtdcdmpgigmhhpaaWInvWords
import Derived.Test.YtdcdmpgigmhhpaaWGuard
import Derived.Test.YtdcdmpgigmhhpaaWNEv
import Derived.Test.YtdcdmpgigmhhpaaWMore
namespace Go.Proofs.Ytdcdmpgigmhhpaa.PVarintTakes
open Go.RowKit Go.Proofs.YtdcdmpgigmhhpaaW.PrintWords Go.Proofs.YtdcdmpgigmhhpaaW.PrintLast Go.Proofs.YtdcdmpgigmhhpaaW.PrintMore
attribute [local go_sem] max2_int min2_int max_two min_two max_three min_three max_four min_four   -- for this text's walks alone
set_option linter.unusedVariables false
set_option linter.unusedSimpArgs false



def errW : Option Int → Value
  | none => .nilIface
  | some c => .iface 0 (.int .i64 c)
theorem errW_none : errW none = .nilIface := rfl
theorem errW_some (c : Int) : errW (some c) = .iface 0 (.int .i64 c) := rfl

theorem info5 : (Try.prog.info? 5).map (fun i => (i.zero, i.size, i.bytes)) = some (some (.int .u8 0), 1, 1) := by kernel_rfl
-- the values' own types

end Go.Proofs.Ytdcdmpgigmhhpaa.PVarintTakes
