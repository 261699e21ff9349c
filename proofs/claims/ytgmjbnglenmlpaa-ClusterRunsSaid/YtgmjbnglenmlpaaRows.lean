/-
  No cell of these rows narrows 'for every input' (looked for: loops, veiled, ifaces, maps, wideKeys, modest, calm, conditions, laid).
  DERIVED. THE GIVEN ROWS OF THIS SEAT. 4 by the template 'for every input the law returns true; each argument reads behind the call as it read before'; 0 by the template 'total and deterministic' (their statements: YtgmjbnglenmlpaaTotals.lean).
  GIVEN WITH THE SEED: the statements are not yours to turn. If you find one false, say at which input.
  Laid BY PROGRAM, IN A SANDBOX (cutbox-rows.mjs): the forced cells as the released guide's own fill.sh prints them over the translation d47ba8c8482b6157… (all of the seat's roots in one cut). By AI agents, Wed Nov 11 2026. No macro, syntax, notation, axiom, sorry.
-/
import Derived.Test.YtgmjbnglenmlpaaChecked
import GoSem.Claim
import GoSem.ClaimJoined
import GoSem.ClaimMapViews
import Derived.JoinedTies
import Derived.KernelRfl
namespace Go.Proofs.Ytgmjbnglenmlpaa
/- THE CELL 'sum', in the pinned program and in every row, IS THE sha256 OF THE DUMP (.gsa) THAT YtgmjbnglenmlpaaProg.lean LOADS. Nothing in Lean hashes anything: it is a label: what it is worth is what the hold of that sum in a sandbox is worth. -/
noncomputable def Try.pinned : Pinned := { name := "ytgmjbnglenmlpaa", sum := "d47ba8c8482b6157076b7ea03d7fc784eef17c4ec4b306781ce54aa6329692ff", checked := Try.checked }
namespace Rows
def none {H : Type} : Left H := { results := [], args := [] }

/-- 'ammonitelaw14.ClusterRuns': WHATEVER THE INPUT: true; the input reads as it did. -/
def clusterRunsSpec : ChangeSpec := { name := "clusterRuns", fn := fun _ => fun
  | [] => { results := [.lit (.bool true)], args := [] }
  | _ => none }
def clusterRunsRow : OpenClaim := { program := "ytgmjbnglenmlpaa", sum := "d47ba8c8482b6157076b7ea03d7fc784eef17c4ec4b306781ce54aa6329692ff", func := "ammonite/ammonitelaw14.ClusterRuns", spec := "clusterRuns", inPlace := ["internal/bytealg.IndexByteString", "internal/bytealg.IndexString", "internal/abi.NoEscape", "internal/bytealg.MakeNoZero"], unfollowed := true, recurses := true, named := ["internal/bytealg.MaxLen"], apart := false }
def ClusterRunsSaid : Prop := clusterRunsRow.holds Try.pinned (OpenSpec.ofChange clusterRunsSpec)

/-- ITS FALSE NEIGHBOUR: 'it returns false'. Refute it at one input. -/
def clusterRunsWrong : ChangeSpec := { name := "clusterRuns", fn := fun _ => fun
  | [] => { results := [.lit (.bool false)], args := [] }
  | _ => none }
def ClusterRunsWrongFalsely : Prop := clusterRunsRow.holds Try.pinned (OpenSpec.ofChange clusterRunsWrong)

/-- 'ammonitelaw14.ClusterTells': WHATEVER THE INPUT: true; the input reads as it did. -/
def clusterTellsSpec : ChangeSpec := { name := "clusterTells", fn := fun _ => fun
  | [d1, d2, d3, d4, d5, d6] => { results := [.lit (.bool true)], args := [d1, d2, d3, d4, d5, d6] }
  | _ => none }
def clusterTellsRow : OpenClaim := { program := "ytgmjbnglenmlpaa", sum := "d47ba8c8482b6157076b7ea03d7fc784eef17c4ec4b306781ce54aa6329692ff", func := "ammonite/ammonitelaw14.ClusterTells", spec := "clusterTells", inPlace := ["internal/bytealg.IndexByteString", "internal/bytealg.IndexString", "internal/abi.NoEscape", "internal/bytealg.MakeNoZero"], unfollowed := true, recurses := true, named := ["internal/bytealg.MaxLen"], apart := false }
def ClusterTellsSaid : Prop := clusterTellsRow.holds Try.pinned (OpenSpec.ofChange clusterTellsSpec)

/-- ITS FALSE NEIGHBOUR: 'it returns false'. Refute it at one input. -/
def clusterTellsWrong : ChangeSpec := { name := "clusterTells", fn := fun _ => fun
  | [d1, d2, d3, d4, d5, d6] => { results := [.lit (.bool false)], args := [d1, d2, d3, d4, d5, d6] }
  | _ => none }
def ClusterTellsWrongFalsely : Prop := clusterTellsRow.holds Try.pinned (OpenSpec.ofChange clusterTellsWrong)

/-- 'ammonitelaw14.ClusterWalks': WHATEVER THE INPUT: true; the input reads as it did. -/
def clusterWalksSpec : ChangeSpec := { name := "clusterWalks", fn := fun _ => fun
  | [d1, d2] => { results := [.lit (.bool true)], args := [d1, d2] }
  | _ => none }
def clusterWalksRow : OpenClaim := { program := "ytgmjbnglenmlpaa", sum := "d47ba8c8482b6157076b7ea03d7fc784eef17c4ec4b306781ce54aa6329692ff", func := "ammonite/ammonitelaw14.ClusterWalks", spec := "clusterWalks", inPlace := ["internal/bytealg.IndexByteString", "internal/bytealg.IndexString", "internal/abi.NoEscape", "internal/bytealg.MakeNoZero"], unfollowed := true, recurses := true, named := ["internal/bytealg.MaxLen"], apart := false }
def ClusterWalksSaid : Prop := clusterWalksRow.holds Try.pinned (OpenSpec.ofChange clusterWalksSpec)

/-- ITS FALSE NEIGHBOUR: 'it returns false'. Refute it at one input. -/
def clusterWalksWrong : ChangeSpec := { name := "clusterWalks", fn := fun _ => fun
  | [d1, d2] => { results := [.lit (.bool false)], args := [d1, d2] }
  | _ => none }
def ClusterWalksWrongFalsely : Prop := clusterWalksRow.holds Try.pinned (OpenSpec.ofChange clusterWalksWrong)

/-- 'ammonitelaw14.ClusterSizes': WHATEVER THE INPUT: true; the input reads as it did. -/
def clusterSizesSpec : ChangeSpec := { name := "clusterSizes", fn := fun _ => fun
  | [d1, d2] => { results := [.lit (.bool true)], args := [d1, d2] }
  | _ => none }
def clusterSizesRow : OpenClaim := { program := "ytgmjbnglenmlpaa", sum := "d47ba8c8482b6157076b7ea03d7fc784eef17c4ec4b306781ce54aa6329692ff", func := "ammonite/ammonitelaw14.ClusterSizes", spec := "clusterSizes", inPlace := ["internal/bytealg.IndexByteString", "internal/bytealg.IndexString", "internal/abi.NoEscape", "internal/bytealg.MakeNoZero"], unfollowed := true, recurses := true, named := ["internal/bytealg.MaxLen"], apart := false }
def ClusterSizesSaid : Prop := clusterSizesRow.holds Try.pinned (OpenSpec.ofChange clusterSizesSpec)

/-- ITS FALSE NEIGHBOUR: 'it returns false'. Refute it at one input. -/
def clusterSizesWrong : ChangeSpec := { name := "clusterSizes", fn := fun _ => fun
  | [d1, d2] => { results := [.lit (.bool false)], args := [d1, d2] }
  | _ => none }
def ClusterSizesWrongFalsely : Prop := clusterSizesRow.holds Try.pinned (OpenSpec.ofChange clusterSizesWrong)

/- THE SECOND FORM. 'bulk': how many values and letters a reading holds, each counted each time it is reached (what is shared counts as often as it is met; a slice's spare places count too). A statement '..UptoSaid' is the law's where the arguments, and the package variables that the reading takes, are together of bulk at most 1048576: NARROWER than '..Said'. Prove '..Said' where nothing that the law and all that it calls make is longer than what came in: it says more and counts as full. Else prove '..UptoSaid'. A law counts once. -/
mutual
def uptoBulk {H : Type} : DataW H → Nat
  | .lit (.string bytes) => bytes.length + 1
  | .lit _ => 1
  | .nil => 1
  | .ptr d => uptoBulk d + 1
  | .slice elems spare => uptoBulkAll elems + uptoBulkAll spare + 1
  | .agg parts => uptoBulkAll parts + 1
  | .iface _ d => uptoBulk d + 1
  | .map entries => uptoBulkEntries entries + 1
  | .held _ => 1
def uptoBulkAll {H : Type} : List (DataW H) → Nat
  | [] => 0
  | d :: r => uptoBulk d + uptoBulkAll r
def uptoBulkEntries {H : Type} : List (Lit × DataW H) → Nat
  | [] => 0
  | x :: r => uptoBulkEntry x + uptoBulkEntries r
def uptoBulkEntry {H : Type} : Lit × DataW H → Nat
  | (.string bytes, d) => bytes.length + uptoBulk d + 1
  | (_, d) => uptoBulk d + 1
 end
def uptoSmall : (H : Type) → List (DataW H) → Bool := fun _ ds => decide (uptoBulkAll ds ≤ 1048576)
def OpenSpec.upto (s : _root_.Go.ChangeSpec) : _root_.Go.OpenSpec := { _root_.Go.OpenSpec.ofChange s with cond := some uptoSmall }

/-- 'ammonitelaw14.ClusterRuns', WHERE WHAT IT READS IS OF BULK AT MOST 1048576: true; the input reads as it did. -/
def clusterRunsUptoRow : OpenClaim := { program := "ytgmjbnglenmlpaa", sum := "d47ba8c8482b6157076b7ea03d7fc784eef17c4ec4b306781ce54aa6329692ff", func := "ammonite/ammonitelaw14.ClusterRuns", spec := "clusterRuns", inPlace := ["internal/bytealg.IndexByteString", "internal/bytealg.IndexString", "internal/abi.NoEscape", "internal/bytealg.MakeNoZero"], unfollowed := true, recurses := true, named := ["internal/bytealg.MaxLen"], apart := false, narrowed := true }
def ClusterRunsUptoSaid : Prop := clusterRunsUptoRow.holds Try.pinned (OpenSpec.upto clusterRunsSpec)

/-- 'ammonitelaw14.ClusterTells', WHERE WHAT IT READS IS OF BULK AT MOST 1048576: true; the input reads as it did. -/
def clusterTellsUptoRow : OpenClaim := { program := "ytgmjbnglenmlpaa", sum := "d47ba8c8482b6157076b7ea03d7fc784eef17c4ec4b306781ce54aa6329692ff", func := "ammonite/ammonitelaw14.ClusterTells", spec := "clusterTells", inPlace := ["internal/bytealg.IndexByteString", "internal/bytealg.IndexString", "internal/abi.NoEscape", "internal/bytealg.MakeNoZero"], unfollowed := true, recurses := true, named := ["internal/bytealg.MaxLen"], apart := false, narrowed := true }
def ClusterTellsUptoSaid : Prop := clusterTellsUptoRow.holds Try.pinned (OpenSpec.upto clusterTellsSpec)

/-- 'ammonitelaw14.ClusterWalks', WHERE WHAT IT READS IS OF BULK AT MOST 1048576: true; the input reads as it did. -/
def clusterWalksUptoRow : OpenClaim := { program := "ytgmjbnglenmlpaa", sum := "d47ba8c8482b6157076b7ea03d7fc784eef17c4ec4b306781ce54aa6329692ff", func := "ammonite/ammonitelaw14.ClusterWalks", spec := "clusterWalks", inPlace := ["internal/bytealg.IndexByteString", "internal/bytealg.IndexString", "internal/abi.NoEscape", "internal/bytealg.MakeNoZero"], unfollowed := true, recurses := true, named := ["internal/bytealg.MaxLen"], apart := false, narrowed := true }
def ClusterWalksUptoSaid : Prop := clusterWalksUptoRow.holds Try.pinned (OpenSpec.upto clusterWalksSpec)

/-- 'ammonitelaw14.ClusterSizes', WHERE WHAT IT READS IS OF BULK AT MOST 1048576: true; the input reads as it did. -/
def clusterSizesUptoRow : OpenClaim := { program := "ytgmjbnglenmlpaa", sum := "d47ba8c8482b6157076b7ea03d7fc784eef17c4ec4b306781ce54aa6329692ff", func := "ammonite/ammonitelaw14.ClusterSizes", spec := "clusterSizes", inPlace := ["internal/bytealg.IndexByteString", "internal/bytealg.IndexString", "internal/abi.NoEscape", "internal/bytealg.MakeNoZero"], unfollowed := true, recurses := true, named := ["internal/bytealg.MaxLen"], apart := false, narrowed := true }
def ClusterSizesUptoSaid : Prop := clusterSizesUptoRow.holds Try.pinned (OpenSpec.upto clusterSizesSpec)

end Rows
end Go.Proofs.Ytgmjbnglenmlpaa
