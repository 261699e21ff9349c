/- Chapter 4's closed sentence: the printed run answers true. No condition. -/
import Derived.Test.YtcjkichimndioaaQx7
import Derived.KernelRfl
namespace Go.Proofs.Ytcjkichimndioaa.Pure
open Go.RowKit Go.Proofs.Ytcjkichimndioaa.Q Go.Proofs.YtcjkichimndioaaW.PrintWords Go.Proofs.YtcjkichimndioaaW.PrintLast
theorem SqueezeRuns : ammonitelaw4_SqueezeRuns.Pure := ⟨12, by kernel_rfl⟩
end Go.Proofs.Ytcjkichimndioaa.Pure
