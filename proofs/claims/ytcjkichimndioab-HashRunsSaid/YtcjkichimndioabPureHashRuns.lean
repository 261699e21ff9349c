/- Chapter 1's closed sentence: the printed run answers true. No condition. -/
import Derived.Test.YtcjkichimndioabQx1
import Derived.Test.YtcjkichimndioabHash
import Derived.KernelRfl
namespace Go.Proofs.Ytcjkichimndioab.Pure
open Go.RowKit Go.Proofs.Ytcjkichimndioab.Q Go.Proofs.YtcjkichimndioabW.PrintWords Go.Proofs.YtcjkichimndioabW.PrintLast
theorem HashRuns : ammonitelaw1_HashRuns.Pure := ⟨60, by kernel_rfl⟩
end Go.Proofs.Ytcjkichimndioab.Pure
