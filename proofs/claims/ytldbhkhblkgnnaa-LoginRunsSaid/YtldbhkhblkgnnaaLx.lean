-- Written by a program of this session (wip/tools/ap.py) for this claim.
import Derived.Test.YtldbhkhblkgnnaaLx0
import Derived.Test.YtldbhkhblkgnnaaLx1
import Derived.Test.YtldbhkhblkgnnaaLx2
namespace Go.Proofs.Ytldbhkhblkgnnaa.Q
open Go.Proofs.Ytldbhkhblkgnnaa.Given
open Go.RowKit Go.Proofs.Ytldbhkhblkgnnaa.PW Go.Proofs.YtldbhkhblkgnnaaW.PrintWords Go.Proofs.YtldbhkhblkgnnaaW.PrintLast Go.Proofs.YtldbhkhblkgnnaaW.PrintMore
attribute [local go_sem] max2_int min2_int max_two min_two max_three min_three max_four min_four   -- for this text's walks alone
set_option linter.unnecessarySimpa false
attribute [local go_sem high] run_cut_if run_cut_from run_cut_to run_cat_if
set_option linter.unusedVariables false
set_option linter.unusedSimpArgs false

end Go.Proofs.Ytldbhkhblkgnnaa.Q
