/- The contract of squeeze.Press, in the form in which the printed callers take it. -/
import Derived.Test.YtjiafbckfnglmaaPr3
namespace Go.Proofs.Ytjiafbckfnglmaa.Given
open Go.RowKit Go.Proofs.YtjiafbckfnglmaaW.PrintWords
theorem squeeze_Press.calls (a0 : ByteArray) (r : ByteArray) (w : World) (h : squeeze_Press.f a0 = some r) :
    Calls Try.prog 6 #[.string a0] w fun e w' => e = .returned (.string r) ∧ Below w.heap.size w w' := press_loop a0 w r h
end Go.Proofs.Ytjiafbckfnglmaa.Given
