-- Written by a program of this session (out of the kit's printer); Lean checks it.
import Derived.Test.YtmbcoeicnlncbaaProg
import Derived.Below
import Derived.Deep.Draws
import Derived.Deep.AppendLies
import Derived.Maps.AppendAt
import Derived.OwnWalk
import Derived.Laws.BytesArg
import Derived.Laws.MakeOwn
import Derived.Laws.OwnMore
import Derived.Deep.OwnRows
import Derived.Tactics
import Derived.Lib.ConvBytes
import Derived.Laws.Slices
import Derived.WalkKit
import Derived.KernelRfl
import Derived.RowKit3
import Derived.Deep.LoopGhost
import Derived.Deep.QuietTactic
import Derived.BigQuiet
import Derived.WideLaws
import Derived.Deep.DeepCutAuto
import Derived.Deep.CutBlock
import Derived.Deep.RegionHeld3
import Derived.Laws.Rows
import Derived.Lib.AppendStr
import Derived.ArgAppend
import Derived.Laws.IdiomCopy
import Derived.OrdersHeld
import Derived.Laws.BitsLemmas
import Derived.RowKit
import Derived.StillTailTactics
import Derived.Lib.Hide
import Derived.Test.YtmbcoeicnlncbaaWMore
import Derived.Test.YtmbcoeicnlncbaaCopy
import Derived.Test.YtmbcoeicnlncbaaWWords
import Derived.Test.YtmbcoeicnlncbaaWLast
import Derived.Test.YtmbcoeicnlncbaaWTab
import Derived.Test.YtmbcoeicnlncbaaWFour
import Derived.Test.YtmbcoeicnlncbaaWQPut
import Derived.Test.YtmbcoeicnlncbaaWApart
import Derived.Test.YtmbcoeicnlncbaaWArr
import Derived.Test.YtmbcoeicnlncbaaWZeros
import Derived.Test.YtmbcoeicnlncbaaWFoot
import Derived.Test.YtmbcoeicnlncbaaWKept
import Derived.Test.YtmbcoeicnlncbaaWShare
import Derived.Test.YtmbcoeicnlncbaaWN
import Derived.Test.YtmbcoeicnlncbaaWFootNe
import Derived.Test.YtmbcoeicnlncbaaWAt
import Derived.Test.YtmbcoeicnlncbaaWEqStruct
import Derived.Test.YtmbcoeicnlncbaaWRepsOne
import Derived.Test.YtmbcoeicnlncbaaWInv
import Derived.Test.YtmbcoeicnlncbaaWInvWords
import Derived.Test.YtmbcoeicnlncbaaWGuard
import Derived.Test.YtmbcoeicnlncbaaWNEv
import Derived.Test.YtmbcoeicnlncbaaWMore
namespace Go.Proofs.Ytmbcoeicnlncbaa.GTabsTells
open Go.RowKit Go.Proofs.YtmbcoeicnlncbaaW.PrintWords Go.Proofs.YtmbcoeicnlncbaaW.PrintLast Go.Proofs.YtmbcoeicnlncbaaW.PrintMore
attribute [local go_sem] max2_int min2_int max_two min_two max_three min_three max_four min_four   -- for this text's walks alone
set_option linter.unusedVariables false
set_option linter.unusedSimpArgs false



def errW : Option Int → Value
  | none => .nilIface
  | some c => .iface 0 (.int .i64 c)
theorem errW_none : errW none = .nilIface := rfl
theorem errW_some (c : Int) : errW (some c) = .iface 0 (.int .i64 c) := rfl

theorem info3 : (Try.prog.info? 3).map (fun i => (i.zero, i.size, i.bytes)) = some (some (.int .i64 0), 1, 8) := by kernel_rfl
-- the values' own types

end Go.Proofs.Ytmbcoeicnlncbaa.GTabsTells
