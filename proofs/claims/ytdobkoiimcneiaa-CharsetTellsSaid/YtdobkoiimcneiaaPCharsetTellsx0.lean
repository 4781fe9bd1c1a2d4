-- PRINTED BY print.sh 35421559b90ae4d0a3588c463048766b98c2df88dd9212a6774a882060cdf62d: not written by this session
import Derived.Test.YtdobkoiimcneiaaProg
import Derived.Below
import Derived.Deep.Draws
import Derived.Deep.AppendLies
import Derived.Maps.AppendAt
import Derived.OwnWalk
import Derived.Laws.BytesArg
import Derived.Laws.MakeOwn
import Derived.Laws.OwnMore
import Derived.Deep.OwnRows
import Derived.Tactics
import Derived.Lib.ConvBytes
import Derived.Laws.Slices
import Derived.WalkKit
import Derived.KernelRfl
import Derived.RowKit3
import Derived.Deep.LoopGhost
import Derived.Deep.QuietTactic
import Derived.BigQuiet
import Derived.WideLaws
import Derived.Deep.DeepCutAuto
import Derived.Deep.CutBlock
import Derived.Deep.RegionHeld3
import Derived.Laws.Rows
import Derived.Lib.AppendStr
import Derived.ArgAppend
import Derived.Laws.IdiomCopy
import Derived.OrdersHeld
import Derived.Laws.BitsLemmas
import Derived.RowKit
import Derived.Test.YtdobkoiimcneiaaWWords
import Derived.Test.YtdobkoiimcneiaaWLast
import Derived.Test.YtdobkoiimcneiaaWTab
import Derived.Test.YtdobkoiimcneiaaWFour
import Derived.Test.YtdobkoiimcneiaaWQPut
import Derived.Test.YtdobkoiimcneiaaWApart
import Derived.Test.YtdobkoiimcneiaaWArr
import Derived.Test.YtdobkoiimcneiaaWZeros
import Derived.Test.YtdobkoiimcneiaaWFoot
import Derived.Test.YtdobkoiimcneiaaWKept
import Derived.Test.YtdobkoiimcneiaaWShare
import Derived.Test.YtdobkoiimcneiaaWN
import Derived.Test.YtdobkoiimcneiaaWFootNe
import Derived.Test.YtdobkoiimcneiaaWAt
import Derived.Test.YtdobkoiimcneiaaWEqStruct
import Derived.Test.YtdobkoiimcneiaaWRepsOne
import Derived.Test.YtdobkoiimcneiaaWInv
import Derived.Test.YtdobkoiimcneiaaWInvWords
import Derived.Test.YtdobkoiimcneiaaWGuard
import Derived.Test.YtdobkoiimcneiaaWNEv
import Derived.Test.YtdobkoiimcneiaaWMore
namespace Go.Proofs.Ytdobkoiimcneiaa.PCharsetTells
open Go.RowKit Go.Proofs.YtdobkoiimcneiaaW.PrintWords Go.Proofs.YtdobkoiimcneiaaW.PrintLast Go.Proofs.YtdobkoiimcneiaaW.PrintMore
attribute [local go_sem] max2_int min2_int max_two min_two max_three min_three max_four min_four   -- for this text's walks alone
set_option linter.unusedVariables false
set_option linter.unusedSimpArgs false



def errW : Option Int → Value
  | none => .nilIface
  | some c => .iface 0 (.int .i64 c)
theorem errW_none : errW none = .nilIface := rfl
theorem errW_some (c : Int) : errW (some c) = .iface 0 (.int .i64 c) := rfl

theorem info21 : (Try.prog.info? 21).map (fun i => (i.zero, i.size, i.bytes)) = some (some (.int .i32 0), 1, 4) := by kernel_rfl
-- the values' own types

end Go.Proofs.Ytdobkoiimcneiaa.PCharsetTells
