/- Contracts of library functions, in the form in which the printed callers take them: what the call answers is what the Lean function here says. -/
import Derived.Lib.Bytealg
import Derived.Test.YtldbhkhblkgnnaaShelf
import Derived.Test.YtldbhkhblkgnnaaWWords
import Derived.WalkKit
namespace Go.Proofs.Ytldbhkhblkgnnaa.Given
open Go.RowKit Go.Proofs.YtldbhkhblkgnnaaW.PrintWords
def strings_IndexByte.f (a0 : ByteArray) (a1 : Int) : Option Int := some (Lib.indexByte a0.data.toList a1.toNat.toUInt8)
theorem strings_IndexByte.calls (a0 : ByteArray) (a1 : Int) (r : Int) (w : World) (h : strings_IndexByte.f a0 a1 = some r) :
    Calls Try.prog 46 #[.string a0, .int .u8 a1] w fun e w' => e = .returned (.int .i64 r) ∧ Drawn0 w w' := by
  obtain rfl := Option.some.inj h
  refine (Try.strings_IndexByte a0 a1 w).mono ?_
  rintro e w' ⟨rfl, rfl⟩
  exact ⟨rfl, Drawn0.refl _⟩

end Go.Proofs.Ytldbhkhblkgnnaa.Given
