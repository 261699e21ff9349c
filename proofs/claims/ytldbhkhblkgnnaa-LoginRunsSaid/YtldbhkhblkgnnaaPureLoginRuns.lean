/- Chapter 22's closed sentence: a message that is signed by one user is his, not another's; what he may. No condition. -/
import Derived.Test.YtldbhkhblkgnnaaRx2
import Derived.KernelRfl
namespace Go.Proofs.Ytldbhkhblkgnnaa.Pure
open Go.RowKit Go.Proofs.Ytldbhkhblkgnnaa.Q Go.Proofs.YtldbhkhblkgnnaaW.PrintWords Go.Proofs.YtldbhkhblkgnnaaW.PrintLast
theorem LoginRuns : ammonitelaw22_LoginRuns.Pure := ⟨100, by kernel_rfl⟩
end Go.Proofs.Ytldbhkhblkgnnaa.Pure
