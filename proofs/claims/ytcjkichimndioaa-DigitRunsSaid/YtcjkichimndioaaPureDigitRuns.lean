/- Chapter 2's closed sentence: the printed run answers true. No condition. -/
import Derived.Test.YtcjkichimndioaaQx2
import Derived.KernelRfl
namespace Go.Proofs.Ytcjkichimndioaa.Pure
open Go.RowKit Go.Proofs.Ytcjkichimndioaa.Q Go.Proofs.YtcjkichimndioaaW.PrintWords Go.Proofs.YtcjkichimndioaaW.PrintLast
theorem DigitRuns : ammonitelaw2_DigitRuns.Pure := ⟨10, by kernel_rfl⟩
end Go.Proofs.Ytcjkichimndioaa.Pure
