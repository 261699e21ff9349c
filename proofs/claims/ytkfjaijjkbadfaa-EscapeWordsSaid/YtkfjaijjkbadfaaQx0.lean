-- Written by a program of this session (wip/tools/ap.py) for this claim.
import Derived.Test.YtkfjaijjkbadfaaProg
import Derived.Below
import Derived.Deep.Draws
import Derived.Deep.AppendLies
import Derived.Maps.AppendAt
import Derived.OwnWalk
import Derived.Laws.BytesArg
import Derived.Laws.MakeOwn
import Derived.Laws.OwnMore
import Derived.Deep.OwnRows
import Derived.Tactics
import Derived.Lib.ConvBytes
import Derived.Laws.Slices
import Derived.WalkKit
import Derived.KernelRfl
import Derived.RowKit3
import Derived.Deep.LoopGhost
import Derived.Deep.QuietTactic
import Derived.BigQuiet
import Derived.WideLaws
import Derived.Deep.DeepCutAuto
import Derived.Deep.CutBlock
import Derived.Deep.RegionHeld3
import Derived.Laws.Rows
import Derived.Lib.AppendStr
import Derived.ArgAppend
import Derived.Laws.IdiomCopy
import Derived.OrdersHeld
import Derived.Laws.BitsLemmas
import Derived.RowKit
import Derived.Test.YtkfjaijjkbadfaaWWords
import Derived.Test.YtkfjaijjkbadfaaWLast
import Derived.Test.YtkfjaijjkbadfaaWTab
import Derived.Test.YtkfjaijjkbadfaaWFour
import Derived.Test.YtkfjaijjkbadfaaWQPut
import Derived.Test.YtkfjaijjkbadfaaWApart
import Derived.Test.YtkfjaijjkbadfaaWArr
import Derived.Test.YtkfjaijjkbadfaaWZeros
import Derived.Test.YtkfjaijjkbadfaaWFoot
import Derived.Test.YtkfjaijjkbadfaaWKept
import Derived.Test.YtkfjaijjkbadfaaWShare
import Derived.Test.YtkfjaijjkbadfaaWN
import Derived.Test.YtkfjaijjkbadfaaWFootNe
import Derived.Test.YtkfjaijjkbadfaaWAt
import Derived.Test.YtkfjaijjkbadfaaWEqStruct
import Derived.Test.YtkfjaijjkbadfaaWRepsOne
import Derived.Test.YtkfjaijjkbadfaaWInv
import Derived.Test.YtkfjaijjkbadfaaWInvWords
import Derived.Test.YtkfjaijjkbadfaaWGuard
import Derived.Test.YtkfjaijjkbadfaaWNEv
import Derived.Test.YtkfjaijjkbadfaaWMore
import Derived.Test.YtkfjaijjkbadfaaEsc1
import Derived.Test.YtkfjaijjkbadfaaPW
namespace Go.Proofs.Ytkfjaijjkbadfaa.Q
open Go.Proofs.Ytkfjaijjkbadfaa.Given
open Go.RowKit Go.Proofs.Ytkfjaijjkbadfaa.PW Go.Proofs.YtkfjaijjkbadfaaW.PrintWords Go.Proofs.YtkfjaijjkbadfaaW.PrintLast Go.Proofs.YtkfjaijjkbadfaaW.PrintMore
attribute [local go_sem] max2_int min2_int max_two min_two max_three min_three max_four min_four   -- for this text's walks alone
set_option linter.unnecessarySimpa false
attribute [local go_sem high] run_cut_if run_cut_from run_cut_to run_cat_if
set_option linter.unusedVariables false
set_option linter.unusedSimpArgs false



def errW : Option Int → Value
  | none => .nilIface
  | some c => .iface 0 (.int .i64 c)
theorem errW_none : errW none = .nilIface := rfl
theorem errW_some (c : Int) : errW (some c) = .iface 0 (.int .i64 c) := rfl

-- the values' own types

end Go.Proofs.Ytkfjaijjkbadfaa.Q
