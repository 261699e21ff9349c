-- Written by a program of this session (wip/tools/ap.py) for this claim.
import Derived.Test.YtldbhkhblkgnnaaProg
import Derived.Below
import Derived.Deep.Draws
import Derived.Deep.AppendLies
import Derived.Maps.AppendAt
import Derived.OwnWalk
import Derived.Laws.BytesArg
import Derived.Laws.MakeOwn
import Derived.Laws.OwnMore
import Derived.Deep.OwnRows
import Derived.Tactics
import Derived.Lib.ConvBytes
import Derived.Laws.Slices
import Derived.WalkKit
import Derived.KernelRfl
import Derived.RowKit3
import Derived.Deep.LoopGhost
import Derived.Deep.QuietTactic
import Derived.BigQuiet
import Derived.WideLaws
import Derived.Deep.DeepCutAuto
import Derived.Deep.CutBlock
import Derived.Deep.RegionHeld3
import Derived.Laws.Rows
import Derived.Lib.AppendStr
import Derived.ArgAppend
import Derived.Laws.IdiomCopy
import Derived.OrdersHeld
import Derived.Laws.BitsLemmas
import Derived.RowKit
import Derived.Test.YtldbhkhblkgnnaaWWords
import Derived.Test.YtldbhkhblkgnnaaWLast
import Derived.Test.YtldbhkhblkgnnaaWTab
import Derived.Test.YtldbhkhblkgnnaaWFour
import Derived.Test.YtldbhkhblkgnnaaWQPut
import Derived.Test.YtldbhkhblkgnnaaWApart
import Derived.Test.YtldbhkhblkgnnaaWArr
import Derived.Test.YtldbhkhblkgnnaaWZeros
import Derived.Test.YtldbhkhblkgnnaaWFoot
import Derived.Test.YtldbhkhblkgnnaaWKept
import Derived.Test.YtldbhkhblkgnnaaWShare
import Derived.Test.YtldbhkhblkgnnaaWN
import Derived.Test.YtldbhkhblkgnnaaWFootNe
import Derived.Test.YtldbhkhblkgnnaaWAt
import Derived.Test.YtldbhkhblkgnnaaWEqStruct
import Derived.Test.YtldbhkhblkgnnaaWRepsOne
import Derived.Test.YtldbhkhblkgnnaaWInv
import Derived.Test.YtldbhkhblkgnnaaWInvWords
import Derived.Test.YtldbhkhblkgnnaaWGuard
import Derived.Test.YtldbhkhblkgnnaaWNEv
import Derived.Test.YtldbhkhblkgnnaaWMore
import Derived.Test.YtldbhkhblkgnnaaGiven
import Derived.Test.YtldbhkhblkgnnaaHash
import Derived.Test.YtldbhkhblkgnnaaHx
import Derived.Test.YtldbhkhblkgnnaaLx
import Derived.Test.YtldbhkhblkgnnaaMay
import Derived.Test.YtldbhkhblkgnnaaPW
import Derived.Test.YtldbhkhblkgnnaaVx
import Derived.Test.YtldbhkhblkgnnaaWFil2
import Derived.Test.YtldbhkhblkgnnaaWr4
namespace Go.Proofs.Ytldbhkhblkgnnaa.Q
open Go.Proofs.Ytldbhkhblkgnnaa.Given
open Go.RowKit Go.Proofs.Ytldbhkhblkgnnaa.PW Go.Proofs.YtldbhkhblkgnnaaW.PrintWords Go.Proofs.YtldbhkhblkgnnaaW.PrintLast Go.Proofs.YtldbhkhblkgnnaaW.PrintMore
attribute [local go_sem] max2_int min2_int max_two min_two max_three min_three max_four min_four   -- for this text's walks alone
set_option linter.unnecessarySimpa false
attribute [local go_sem high] run_cut_if run_cut_from run_cut_to run_cat_if
set_option linter.unusedVariables false
set_option linter.unusedSimpArgs false



theorem info23 : (Try.prog.info? 23).map (fun i => (i.zero, i.size, i.bytes)) = some (some (.agg #[(.string ⟨#[]⟩), (.string ⟨#[]⟩), (.bool false), (.bool false)]), 4, 40) := by kernel_rfl
-- the values' own types
/-! #### struct type 46 -/
/-! #### struct type 23 -/
end Go.Proofs.Ytldbhkhblkgnnaa.Q
