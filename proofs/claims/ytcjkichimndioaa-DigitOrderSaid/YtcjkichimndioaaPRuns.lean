/- Chapter 2's closed sentence answers true, from some number of rounds on. -/
import Derived.Test.YtcjkichimndioaaPBase
import Derived.Test.YtcjkichimndioaaQx2
import Derived.KernelRfl
namespace Go.Proofs.Ytcjkichimndioaa.B
open Go.RowKit Go.Proofs.Ytcjkichimndioaa.Q Go.Proofs.YtcjkichimndioaaW.PrintWords
theorem druns10 : ammonitelaw2_DigitRuns.f 10 = some true := by kernel_rfl
theorem druns : Ev (fun k => ammonitelaw2_DigitRuns.f k) true := Ev.of (fun k => ammonitelaw2_DigitRuns.mono k) druns10
end Go.Proofs.Ytcjkichimndioaa.B
