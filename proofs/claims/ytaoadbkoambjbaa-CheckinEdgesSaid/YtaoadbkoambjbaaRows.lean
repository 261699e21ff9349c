/-
  No cell of these rows narrows 'for every input' (looked for: loops, veiled, ifaces, maps, wideKeys, modest, calm, conditions, laid).
  DERIVED. THE GIVEN ROWS OF THIS SEAT. 6 by the template 'for every input the law returns true; each argument reads behind the call as it read before'; 0 by the template 'total and deterministic' (their statements: YtaoadbkoambjbaaTotals.lean).
  GIVEN WITH THE SEED: the statements are not yours to turn. If you find one false, say at which input.
  Laid BY PROGRAM, IN A SANDBOX (cutbox-rows.mjs): the forced cells as the released guide's own fill.sh prints them over the translation b07cdf7b0d47028d… (all of the seat's roots in one cut). By AI agents, Wed Nov 11 2026. No macro, syntax, notation, axiom, sorry.
-/
import Derived.Test.YtaoadbkoambjbaaChecked
import GoSem.Claim
import GoSem.ClaimJoined
import GoSem.ClaimMapViews
import Derived.JoinedTies
import Derived.KernelRfl
namespace Go.Proofs.Ytaoadbkoambjbaa
/- THE CELL 'sum', in the pinned program and in every row, IS THE sha256 OF THE DUMP (.gsa) THAT YtaoadbkoambjbaaProg.lean LOADS. Nothing in Lean hashes anything: it is a label: what it is worth is what the hold of that sum in a sandbox is worth. -/
noncomputable def Try.pinned : Pinned := { name := "ytaoadbkoambjbaa", sum := "b07cdf7b0d47028dfcd9772c7e610431b76094ed1756cfe587da3713ec918208", checked := Try.checked }
namespace Rows
def none {H : Type} : Left H := { results := [], args := [] }

/-- 'ammonitelaw12.CheckinRuns': WHATEVER THE INPUT: true; the input reads as it did. -/
def checkinRunsSpec : ChangeSpec := { name := "checkinRuns", fn := fun _ => fun
  | [] => { results := [.lit (.bool true)], args := [] }
  | _ => none }
def checkinRunsRow : OpenClaim := { program := "ytaoadbkoambjbaa", sum := "b07cdf7b0d47028dfcd9772c7e610431b76094ed1756cfe587da3713ec918208", func := "ammonite/ammonitelaw12.CheckinRuns", spec := "checkinRuns", inPlace := ["internal/bytealg.IndexByteString", "internal/abi.NoEscape", "internal/bytealg.IndexString", "internal/bytealg.MakeNoZero"], unfollowed := true, recurses := true, named := ["internal/bytealg.MaxLen"], apart := false }
def CheckinRunsSaid : Prop := checkinRunsRow.holds Try.pinned (OpenSpec.ofChange checkinRunsSpec)

/-- ITS FALSE NEIGHBOUR: 'it returns false'. Refute it at one input. -/
def checkinRunsWrong : ChangeSpec := { name := "checkinRuns", fn := fun _ => fun
  | [] => { results := [.lit (.bool false)], args := [] }
  | _ => none }
def CheckinRunsWrongFalsely : Prop := checkinRunsRow.holds Try.pinned (OpenSpec.ofChange checkinRunsWrong)

/-- 'ammonitelaw12.CheckinOnly': WHATEVER THE INPUT: true; the input reads as it did. -/
def checkinOnlySpec : ChangeSpec := { name := "checkinOnly", fn := fun _ => fun
  | [d1, d2, d3, d4, d5] => { results := [.lit (.bool true)], args := [d1, d2, d3, d4, d5] }
  | _ => none }
def checkinOnlyRow : OpenClaim := { program := "ytaoadbkoambjbaa", sum := "b07cdf7b0d47028dfcd9772c7e610431b76094ed1756cfe587da3713ec918208", func := "ammonite/ammonitelaw12.CheckinOnly", spec := "checkinOnly", inPlace := ["internal/bytealg.IndexByteString", "internal/bytealg.IndexString", "internal/abi.NoEscape", "internal/bytealg.MakeNoZero"], unfollowed := true, recurses := true, named := ["internal/bytealg.MaxLen"], apart := false }
def CheckinOnlySaid : Prop := checkinOnlyRow.holds Try.pinned (OpenSpec.ofChange checkinOnlySpec)

/-- ITS FALSE NEIGHBOUR: 'it returns false'. Refute it at one input. -/
def checkinOnlyWrong : ChangeSpec := { name := "checkinOnly", fn := fun _ => fun
  | [d1, d2, d3, d4, d5] => { results := [.lit (.bool false)], args := [d1, d2, d3, d4, d5] }
  | _ => none }
def CheckinOnlyWrongFalsely : Prop := checkinOnlyRow.holds Try.pinned (OpenSpec.ofChange checkinOnlyWrong)

/-- 'ammonitelaw12.CheckinTags': WHATEVER THE INPUT: true; the input reads as it did. -/
def checkinTagsSpec : ChangeSpec := { name := "checkinTags", fn := fun _ => fun
  | [d1, d2] => { results := [.lit (.bool true)], args := [d1, d2] }
  | _ => none }
def checkinTagsRow : OpenClaim := { program := "ytaoadbkoambjbaa", sum := "b07cdf7b0d47028dfcd9772c7e610431b76094ed1756cfe587da3713ec918208", func := "ammonite/ammonitelaw12.CheckinTags", spec := "checkinTags", inPlace := ["internal/abi.NoEscape", "internal/bytealg.IndexByteString", "internal/bytealg.IndexString", "internal/bytealg.MakeNoZero"], unfollowed := true, recurses := true, named := ["internal/bytealg.MaxLen"], apart := false }
def CheckinTagsSaid : Prop := checkinTagsRow.holds Try.pinned (OpenSpec.ofChange checkinTagsSpec)

/-- ITS FALSE NEIGHBOUR: 'it returns false'. Refute it at one input. -/
def checkinTagsWrong : ChangeSpec := { name := "checkinTags", fn := fun _ => fun
  | [d1, d2] => { results := [.lit (.bool false)], args := [d1, d2] }
  | _ => none }
def CheckinTagsWrongFalsely : Prop := checkinTagsRow.holds Try.pinned (OpenSpec.ofChange checkinTagsWrong)

/-- 'ammonitelaw12.CheckinEdges': WHATEVER THE INPUT: true; the input reads as it did. -/
def checkinEdgesSpec : ChangeSpec := { name := "checkinEdges", fn := fun _ => fun
  | [d1, d2, d3] => { results := [.lit (.bool true)], args := [d1, d2, d3] }
  | _ => none }
def checkinEdgesRow : OpenClaim := { program := "ytaoadbkoambjbaa", sum := "b07cdf7b0d47028dfcd9772c7e610431b76094ed1756cfe587da3713ec918208", func := "ammonite/ammonitelaw12.CheckinEdges", spec := "checkinEdges", inPlace := ["internal/bytealg.IndexByteString", "internal/bytealg.IndexString", "internal/abi.NoEscape", "internal/bytealg.MakeNoZero"], unfollowed := true, recurses := true, named := ["internal/bytealg.MaxLen"], apart := false }
def CheckinEdgesSaid : Prop := checkinEdgesRow.holds Try.pinned (OpenSpec.ofChange checkinEdgesSpec)

/-- ITS FALSE NEIGHBOUR: 'it returns false'. Refute it at one input. -/
def checkinEdgesWrong : ChangeSpec := { name := "checkinEdges", fn := fun _ => fun
  | [d1, d2, d3] => { results := [.lit (.bool false)], args := [d1, d2, d3] }
  | _ => none }
def CheckinEdgesWrongFalsely : Prop := checkinEdgesRow.holds Try.pinned (OpenSpec.ofChange checkinEdgesWrong)

/-- 'ammonitelaw12.CheckinTells': WHATEVER THE INPUT: true; the input reads as it did. -/
def checkinTellsSpec : ChangeSpec := { name := "checkinTells", fn := fun _ => fun
  | [d1, d2, d3, d4] => { results := [.lit (.bool true)], args := [d1, d2, d3, d4] }
  | _ => none }
def checkinTellsRow : OpenClaim := { program := "ytaoadbkoambjbaa", sum := "b07cdf7b0d47028dfcd9772c7e610431b76094ed1756cfe587da3713ec918208", func := "ammonite/ammonitelaw12.CheckinTells", spec := "checkinTells", inPlace := ["internal/bytealg.IndexByteString", "internal/abi.NoEscape", "internal/bytealg.IndexString", "internal/bytealg.MakeNoZero"], unfollowed := true, recurses := true, named := ["internal/bytealg.MaxLen"], apart := false }
def CheckinTellsSaid : Prop := checkinTellsRow.holds Try.pinned (OpenSpec.ofChange checkinTellsSpec)

/-- ITS FALSE NEIGHBOUR: 'it returns false'. Refute it at one input. -/
def checkinTellsWrong : ChangeSpec := { name := "checkinTells", fn := fun _ => fun
  | [d1, d2, d3, d4] => { results := [.lit (.bool false)], args := [d1, d2, d3, d4] }
  | _ => none }
def CheckinTellsWrongFalsely : Prop := checkinTellsRow.holds Try.pinned (OpenSpec.ofChange checkinTellsWrong)

/-- 'ammonitelaw12.CheckinComments': WHATEVER THE INPUT: true; the input reads as it did. -/
def checkinCommentsSpec : ChangeSpec := { name := "checkinComments", fn := fun _ => fun
  | [d1, d2] => { results := [.lit (.bool true)], args := [d1, d2] }
  | _ => none }
def checkinCommentsRow : OpenClaim := { program := "ytaoadbkoambjbaa", sum := "b07cdf7b0d47028dfcd9772c7e610431b76094ed1756cfe587da3713ec918208", func := "ammonite/ammonitelaw12.CheckinComments", spec := "checkinComments", inPlace := ["internal/bytealg.IndexByteString", "internal/abi.NoEscape", "internal/bytealg.IndexString", "internal/bytealg.MakeNoZero"], unfollowed := true, recurses := true, named := ["internal/bytealg.MaxLen"], apart := false }
def CheckinCommentsSaid : Prop := checkinCommentsRow.holds Try.pinned (OpenSpec.ofChange checkinCommentsSpec)

/-- ITS FALSE NEIGHBOUR: 'it returns false'. Refute it at one input. -/
def checkinCommentsWrong : ChangeSpec := { name := "checkinComments", fn := fun _ => fun
  | [d1, d2] => { results := [.lit (.bool false)], args := [d1, d2] }
  | _ => none }
def CheckinCommentsWrongFalsely : Prop := checkinCommentsRow.holds Try.pinned (OpenSpec.ofChange checkinCommentsWrong)

/- THE SECOND FORM. 'bulk': how many values and letters a reading holds, each counted each time it is reached (what is shared counts as often as it is met; a slice's spare places count too). A statement '..UptoSaid' is the law's where the arguments, and the package variables that the reading takes, are together of bulk at most 1048576: NARROWER than '..Said'. Prove '..Said' where nothing that the law and all that it calls make is longer than what came in: it says more and counts as full. Else prove '..UptoSaid'. A law counts once. -/
mutual
def uptoBulk {H : Type} : DataW H → Nat
  | .lit (.string bytes) => bytes.length + 1
  | .lit _ => 1
  | .nil => 1
  | .ptr d => uptoBulk d + 1
  | .slice elems spare => uptoBulkAll elems + uptoBulkAll spare + 1
  | .agg parts => uptoBulkAll parts + 1
  | .iface _ d => uptoBulk d + 1
  | .map entries => uptoBulkEntries entries + 1
  | .held _ => 1
def uptoBulkAll {H : Type} : List (DataW H) → Nat
  | [] => 0
  | d :: r => uptoBulk d + uptoBulkAll r
def uptoBulkEntries {H : Type} : List (Lit × DataW H) → Nat
  | [] => 0
  | x :: r => uptoBulkEntry x + uptoBulkEntries r
def uptoBulkEntry {H : Type} : Lit × DataW H → Nat
  | (.string bytes, d) => bytes.length + uptoBulk d + 1
  | (_, d) => uptoBulk d + 1
 end
def uptoSmall : (H : Type) → List (DataW H) → Bool := fun _ ds => decide (uptoBulkAll ds ≤ 1048576)
def OpenSpec.upto (s : _root_.Go.ChangeSpec) : _root_.Go.OpenSpec := { _root_.Go.OpenSpec.ofChange s with cond := some uptoSmall }

/-- 'ammonitelaw12.CheckinRuns', WHERE WHAT IT READS IS OF BULK AT MOST 1048576: true; the input reads as it did. -/
def checkinRunsUptoRow : OpenClaim := { program := "ytaoadbkoambjbaa", sum := "b07cdf7b0d47028dfcd9772c7e610431b76094ed1756cfe587da3713ec918208", func := "ammonite/ammonitelaw12.CheckinRuns", spec := "checkinRuns", inPlace := ["internal/bytealg.IndexByteString", "internal/abi.NoEscape", "internal/bytealg.IndexString", "internal/bytealg.MakeNoZero"], unfollowed := true, recurses := true, named := ["internal/bytealg.MaxLen"], apart := false, narrowed := true }
def CheckinRunsUptoSaid : Prop := checkinRunsUptoRow.holds Try.pinned (OpenSpec.upto checkinRunsSpec)

/-- 'ammonitelaw12.CheckinOnly', WHERE WHAT IT READS IS OF BULK AT MOST 1048576: true; the input reads as it did. -/
def checkinOnlyUptoRow : OpenClaim := { program := "ytaoadbkoambjbaa", sum := "b07cdf7b0d47028dfcd9772c7e610431b76094ed1756cfe587da3713ec918208", func := "ammonite/ammonitelaw12.CheckinOnly", spec := "checkinOnly", inPlace := ["internal/bytealg.IndexByteString", "internal/bytealg.IndexString", "internal/abi.NoEscape", "internal/bytealg.MakeNoZero"], unfollowed := true, recurses := true, named := ["internal/bytealg.MaxLen"], apart := false, narrowed := true }
def CheckinOnlyUptoSaid : Prop := checkinOnlyUptoRow.holds Try.pinned (OpenSpec.upto checkinOnlySpec)

/-- 'ammonitelaw12.CheckinTags', WHERE WHAT IT READS IS OF BULK AT MOST 1048576: true; the input reads as it did. -/
def checkinTagsUptoRow : OpenClaim := { program := "ytaoadbkoambjbaa", sum := "b07cdf7b0d47028dfcd9772c7e610431b76094ed1756cfe587da3713ec918208", func := "ammonite/ammonitelaw12.CheckinTags", spec := "checkinTags", inPlace := ["internal/abi.NoEscape", "internal/bytealg.IndexByteString", "internal/bytealg.IndexString", "internal/bytealg.MakeNoZero"], unfollowed := true, recurses := true, named := ["internal/bytealg.MaxLen"], apart := false, narrowed := true }
def CheckinTagsUptoSaid : Prop := checkinTagsUptoRow.holds Try.pinned (OpenSpec.upto checkinTagsSpec)

/-- 'ammonitelaw12.CheckinEdges', WHERE WHAT IT READS IS OF BULK AT MOST 1048576: true; the input reads as it did. -/
def checkinEdgesUptoRow : OpenClaim := { program := "ytaoadbkoambjbaa", sum := "b07cdf7b0d47028dfcd9772c7e610431b76094ed1756cfe587da3713ec918208", func := "ammonite/ammonitelaw12.CheckinEdges", spec := "checkinEdges", inPlace := ["internal/bytealg.IndexByteString", "internal/bytealg.IndexString", "internal/abi.NoEscape", "internal/bytealg.MakeNoZero"], unfollowed := true, recurses := true, named := ["internal/bytealg.MaxLen"], apart := false, narrowed := true }
def CheckinEdgesUptoSaid : Prop := checkinEdgesUptoRow.holds Try.pinned (OpenSpec.upto checkinEdgesSpec)

/-- 'ammonitelaw12.CheckinTells', WHERE WHAT IT READS IS OF BULK AT MOST 1048576: true; the input reads as it did. -/
def checkinTellsUptoRow : OpenClaim := { program := "ytaoadbkoambjbaa", sum := "b07cdf7b0d47028dfcd9772c7e610431b76094ed1756cfe587da3713ec918208", func := "ammonite/ammonitelaw12.CheckinTells", spec := "checkinTells", inPlace := ["internal/bytealg.IndexByteString", "internal/abi.NoEscape", "internal/bytealg.IndexString", "internal/bytealg.MakeNoZero"], unfollowed := true, recurses := true, named := ["internal/bytealg.MaxLen"], apart := false, narrowed := true }
def CheckinTellsUptoSaid : Prop := checkinTellsUptoRow.holds Try.pinned (OpenSpec.upto checkinTellsSpec)

/-- 'ammonitelaw12.CheckinComments', WHERE WHAT IT READS IS OF BULK AT MOST 1048576: true; the input reads as it did. -/
def checkinCommentsUptoRow : OpenClaim := { program := "ytaoadbkoambjbaa", sum := "b07cdf7b0d47028dfcd9772c7e610431b76094ed1756cfe587da3713ec918208", func := "ammonite/ammonitelaw12.CheckinComments", spec := "checkinComments", inPlace := ["internal/bytealg.IndexByteString", "internal/abi.NoEscape", "internal/bytealg.IndexString", "internal/bytealg.MakeNoZero"], unfollowed := true, recurses := true, named := ["internal/bytealg.MaxLen"], apart := false, narrowed := true }
def CheckinCommentsUptoSaid : Prop := checkinCommentsUptoRow.holds Try.pinned (OpenSpec.upto checkinCommentsSpec)

end Rows
end Go.Proofs.Ytaoadbkoambjbaa
