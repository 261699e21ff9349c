/- The reference's words and Cards: what they compute. -/
import Derived.Test.YtjpbbjcfdeappaaP3
set_option linter.unusedVariables false
set_option linter.unusedSimpArgs false
namespace Go.Proofs.Ytjpbbjcfdeappaa.Ab
open Go Go.RowKit Go.Proofs.Ytjpbbjcfdeappaa.Given
section
variable {K : Nat} (hK : 1000000 ≤ K)
include hK
end
end Go.Proofs.Ytjpbbjcfdeappaa.Ab
