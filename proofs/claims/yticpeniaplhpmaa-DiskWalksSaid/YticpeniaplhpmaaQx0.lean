-- Written by a program of this session (wip/tools/ap.py) for this claim.
import Derived.Test.YticpeniaplhpmaaProg
import Derived.Below
import Derived.Deep.Draws
import Derived.Deep.AppendLies
import Derived.Maps.AppendAt
import Derived.OwnWalk
import Derived.Laws.BytesArg
import Derived.Laws.MakeOwn
import Derived.Laws.OwnMore
import Derived.Deep.OwnRows
import Derived.Tactics
import Derived.Lib.ConvBytes
import Derived.Laws.Slices
import Derived.WalkKit
import Derived.KernelRfl
import Derived.RowKit3
import Derived.Deep.LoopGhost
import Derived.Deep.QuietTactic
import Derived.BigQuiet
import Derived.WideLaws
import Derived.Deep.DeepCutAuto
import Derived.Deep.CutBlock
import Derived.Deep.RegionHeld3
import Derived.Laws.Rows
import Derived.Lib.AppendStr
import Derived.ArgAppend
import Derived.Laws.IdiomCopy
import Derived.OrdersHeld
import Derived.Laws.BitsLemmas
import Derived.RowKit
import Derived.Test.YticpeniaplhpmaaWWords
import Derived.Test.YticpeniaplhpmaaWLast
import Derived.Test.YticpeniaplhpmaaWTab
import Derived.Test.YticpeniaplhpmaaWFour
import Derived.Test.YticpeniaplhpmaaWQPut
import Derived.Test.YticpeniaplhpmaaWApart
import Derived.Test.YticpeniaplhpmaaWArr
import Derived.Test.YticpeniaplhpmaaWZeros
import Derived.Test.YticpeniaplhpmaaWFoot
import Derived.Test.YticpeniaplhpmaaWKept
import Derived.Test.YticpeniaplhpmaaWShare
import Derived.Test.YticpeniaplhpmaaWN
import Derived.Test.YticpeniaplhpmaaWFootNe
import Derived.Test.YticpeniaplhpmaaWAt
import Derived.Test.YticpeniaplhpmaaWEqStruct
import Derived.Test.YticpeniaplhpmaaWRepsOne
import Derived.Test.YticpeniaplhpmaaWInv
import Derived.Test.YticpeniaplhpmaaWInvWords
import Derived.Test.YticpeniaplhpmaaWGuard
import Derived.Test.YticpeniaplhpmaaWNEv
import Derived.Test.YticpeniaplhpmaaWMore
import Derived.Test.YticpeniaplhpmaaPW
namespace Go.Proofs.Yticpeniaplhpmaa.Q
open Go.RowKit Go.Proofs.Yticpeniaplhpmaa.PW Go.Proofs.YticpeniaplhpmaaW.PrintWords Go.Proofs.YticpeniaplhpmaaW.PrintLast Go.Proofs.YticpeniaplhpmaaW.PrintMore
attribute [local go_sem] max2_int min2_int max_two min_two max_three min_three max_four min_four   -- for this text's walks alone
set_option linter.unnecessarySimpa false
attribute [local go_sem high] run_cut_if run_cut_from run_cut_to run_cat_if
set_option linter.unusedVariables false
set_option linter.unusedSimpArgs false



def errW : Option Int → Value
  | none => .nilIface
  | some c => .iface 0 (.int .i64 c)
theorem errW_none : errW none = .nilIface := rfl
theorem errW_some (c : Int) : errW (some c) = .iface 0 (.int .i64 c) := rfl

-- the values' own types

end Go.Proofs.Yticpeniaplhpmaa.Q
