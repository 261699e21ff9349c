-- Written by a program of this session (wip/tools/ap.py) for this claim.
import Derived.Test.YtjiafbckfnglmaaProg
import Derived.Below
import Derived.Deep.Draws
import Derived.Deep.AppendLies
import Derived.Maps.AppendAt
import Derived.OwnWalk
import Derived.Laws.BytesArg
import Derived.Laws.MakeOwn
import Derived.Laws.OwnMore
import Derived.Deep.OwnRows
import Derived.Tactics
import Derived.Lib.ConvBytes
import Derived.Laws.Slices
import Derived.WalkKit
import Derived.KernelRfl
import Derived.RowKit3
import Derived.Deep.LoopGhost
import Derived.Deep.QuietTactic
import Derived.BigQuiet
import Derived.WideLaws
import Derived.Deep.DeepCutAuto
import Derived.Deep.CutBlock
import Derived.Deep.RegionHeld3
import Derived.Laws.Rows
import Derived.Lib.AppendStr
import Derived.ArgAppend
import Derived.Laws.IdiomCopy
import Derived.OrdersHeld
import Derived.Laws.BitsLemmas
import Derived.RowKit
import Derived.Test.YtjiafbckfnglmaaWWords
import Derived.Test.YtjiafbckfnglmaaWLast
import Derived.Test.YtjiafbckfnglmaaWTab
import Derived.Test.YtjiafbckfnglmaaWFour
import Derived.Test.YtjiafbckfnglmaaWQPut
import Derived.Test.YtjiafbckfnglmaaWApart
import Derived.Test.YtjiafbckfnglmaaWArr
import Derived.Test.YtjiafbckfnglmaaWZeros
import Derived.Test.YtjiafbckfnglmaaWFoot
import Derived.Test.YtjiafbckfnglmaaWKept
import Derived.Test.YtjiafbckfnglmaaWShare
import Derived.Test.YtjiafbckfnglmaaWN
import Derived.Test.YtjiafbckfnglmaaWFootNe
import Derived.Test.YtjiafbckfnglmaaWAt
import Derived.Test.YtjiafbckfnglmaaWEqStruct
import Derived.Test.YtjiafbckfnglmaaWRepsOne
import Derived.Test.YtjiafbckfnglmaaWInv
import Derived.Test.YtjiafbckfnglmaaWInvWords
import Derived.Test.YtjiafbckfnglmaaWGuard
import Derived.Test.YtjiafbckfnglmaaWNEv
import Derived.Test.YtjiafbckfnglmaaWMore
import Derived.Test.YtjiafbckfnglmaaGiven
import Derived.Test.YtjiafbckfnglmaaPW
import Derived.Test.YtjiafbckfnglmaaPress
namespace Go.Proofs.Ytjiafbckfnglmaa.Q
open Go.Proofs.Ytjiafbckfnglmaa.Given
open Go.RowKit Go.Proofs.Ytjiafbckfnglmaa.PW Go.Proofs.YtjiafbckfnglmaaW.PrintWords Go.Proofs.YtjiafbckfnglmaaW.PrintLast Go.Proofs.YtjiafbckfnglmaaW.PrintMore
attribute [local go_sem] max2_int min2_int max_two min_two max_three min_three max_four min_four   -- for this text's walks alone
set_option linter.unnecessarySimpa false
attribute [local go_sem high] run_cut_if run_cut_from run_cut_to run_cat_if
set_option linter.unusedVariables false
set_option linter.unusedSimpArgs false



def errW : Option Int → Value
  | none => .nilIface
  | some c => .iface 0 (.int .i64 c)
theorem errW_none : errW none = .nilIface := rfl
theorem errW_some (c : Int) : errW (some c) = .iface 0 (.int .i64 c) := rfl

theorem info5 : (Try.prog.info? 5).map (fun i => (i.zero, i.size, i.bytes)) = some (some (.int .u8 0), 1, 1) := by kernel_rfl
theorem info9 : (Try.prog.info? 9).map (fun i => (i.zero, i.size, i.bytes)) = some (some (.string ⟨#[]⟩), 1, 16) := by kernel_rfl
-- the values' own types

end Go.Proofs.Ytjiafbckfnglmaa.Q
