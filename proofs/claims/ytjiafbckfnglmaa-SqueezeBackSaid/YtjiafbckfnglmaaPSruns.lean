/- Chapter 4's closed sentence answers true, from some number of rounds on. -/
import Derived.Test.YtjiafbckfnglmaaPBase
import Derived.Test.YtjiafbckfnglmaaQx5
import Derived.KernelRfl
namespace Go.Proofs.Ytjiafbckfnglmaa.B
open Go.RowKit Go.Proofs.Ytjiafbckfnglmaa.Q Go.Proofs.YtjiafbckfnglmaaW.PrintWords
theorem sruns12 : ammonitelaw4_SqueezeRuns.f 12 = some true := by kernel_rfl
theorem sruns : Ev (fun k => ammonitelaw4_SqueezeRuns.f k) true := Ev.of (fun k => ammonitelaw4_SqueezeRuns.mono k) sruns12
end Go.Proofs.Ytjiafbckfnglmaa.B
