-- Written by a program of this session (wip/tools/ap.py) for this claim.
import Derived.Test.YtpnnnhdhmdildaaProg
import Derived.Below
import Derived.Deep.Draws
import Derived.Deep.AppendLies
import Derived.Maps.AppendAt
import Derived.OwnWalk
import Derived.Laws.BytesArg
import Derived.Laws.MakeOwn
import Derived.Laws.OwnMore
import Derived.Deep.OwnRows
import Derived.Tactics
import Derived.Lib.ConvBytes
import Derived.Laws.Slices
import Derived.WalkKit
import Derived.KernelRfl
import Derived.RowKit3
import Derived.Deep.LoopGhost
import Derived.Deep.QuietTactic
import Derived.BigQuiet
import Derived.WideLaws
import Derived.Deep.DeepCutAuto
import Derived.Deep.CutBlock
import Derived.Deep.RegionHeld3
import Derived.Laws.Rows
import Derived.Lib.AppendStr
import Derived.ArgAppend
import Derived.Laws.IdiomCopy
import Derived.OrdersHeld
import Derived.Laws.BitsLemmas
import Derived.RowKit
import Derived.Test.YtpnnnhdhmdildaaWWords
import Derived.Test.YtpnnnhdhmdildaaWLast
import Derived.Test.YtpnnnhdhmdildaaWTab
import Derived.Test.YtpnnnhdhmdildaaWFour
import Derived.Test.YtpnnnhdhmdildaaWQPut
import Derived.Test.YtpnnnhdhmdildaaWApart
import Derived.Test.YtpnnnhdhmdildaaWArr
import Derived.Test.YtpnnnhdhmdildaaWZeros
import Derived.Test.YtpnnnhdhmdildaaWFoot
import Derived.Test.YtpnnnhdhmdildaaWKept
import Derived.Test.YtpnnnhdhmdildaaWShare
import Derived.Test.YtpnnnhdhmdildaaWN
import Derived.Test.YtpnnnhdhmdildaaWFootNe
import Derived.Test.YtpnnnhdhmdildaaWAt
import Derived.Test.YtpnnnhdhmdildaaWEqStruct
import Derived.Test.YtpnnnhdhmdildaaWRepsOne
import Derived.Test.YtpnnnhdhmdildaaWInv
import Derived.Test.YtpnnnhdhmdildaaWInvWords
import Derived.Test.YtpnnnhdhmdildaaWGuard
import Derived.Test.YtpnnnhdhmdildaaWNEv
import Derived.Test.YtpnnnhdhmdildaaWMore
import Derived.Test.YtpnnnhdhmdildaaPW
namespace Go.Proofs.Ytpnnnhdhmdildaa.Q
open Go.RowKit Go.Proofs.Ytpnnnhdhmdildaa.PW Go.Proofs.YtpnnnhdhmdildaaW.PrintWords Go.Proofs.YtpnnnhdhmdildaaW.PrintLast Go.Proofs.YtpnnnhdhmdildaaW.PrintMore
attribute [local go_sem] max2_int min2_int max_two min_two max_three min_three max_four min_four   -- for this text's walks alone
set_option linter.unnecessarySimpa false
attribute [local go_sem high] run_cut_if run_cut_from run_cut_to run_cat_if
set_option linter.unusedVariables false
set_option linter.unusedSimpArgs false



def errW : Option Int → Value
  | none => .nilIface
  | some c => .iface 0 (.int .i64 c)
theorem errW_none : errW none = .nilIface := rfl
theorem errW_some (c : Int) : errW (some c) = .iface 0 (.int .i64 c) := rfl

-- the values' own types

end Go.Proofs.Ytpnnnhdhmdildaa.Q
