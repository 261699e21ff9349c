/- Chapter 3's closed sentence: the printed run answers true. No condition. -/
import Derived.Test.YtcjkichimndioabQx3
import Derived.KernelRfl
namespace Go.Proofs.Ytcjkichimndioab.Pure
open Go.RowKit Go.Proofs.Ytcjkichimndioab.Q Go.Proofs.YtcjkichimndioabW.PrintWords Go.Proofs.YtcjkichimndioabW.PrintLast
theorem DeltaRuns : ammonitelaw3_DeltaRuns.Pure := ⟨20, by kernel_rfl⟩
end Go.Proofs.Ytcjkichimndioab.Pure
