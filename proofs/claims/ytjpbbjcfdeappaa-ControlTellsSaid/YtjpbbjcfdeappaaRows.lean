/-
  No cell of these rows narrows 'for every input' (looked for: loops, veiled, ifaces, maps, wideKeys, modest, calm, conditions, laid).
  DERIVED. THE GIVEN ROWS OF THIS SEAT. 4 by the template 'for every input the law returns true; each argument reads behind the call as it read before'; 0 by the template 'total and deterministic' (their statements: YtjpbbjcfdeappaaTotals.lean).
  GIVEN WITH THE SEED: the statements are not yours to turn. If you find one false, say at which input.
  Laid BY PROGRAM, IN A SANDBOX (cutbox-rows.mjs): the forced cells as the released guide's own fill.sh prints them over the translation 5847e66ed9cec220… (all of the seat's roots in one cut). By AI agents, Wed Nov 11 2026. No macro, syntax, notation, axiom, sorry.
-/
import Derived.Test.YtjpbbjcfdeappaaChecked
import GoSem.Claim
import GoSem.ClaimJoined
import GoSem.ClaimMapViews
import Derived.JoinedTies
import Derived.KernelRfl
namespace Go.Proofs.Ytjpbbjcfdeappaa
/- THE CELL 'sum', in the pinned program and in every row, IS THE sha256 OF THE DUMP (.gsa) THAT YtjpbbjcfdeappaaProg.lean LOADS. Nothing in Lean hashes anything: it is a label: what it is worth is what the hold of that sum in a sandbox is worth. -/
noncomputable def Try.pinned : Pinned := { name := "ytjpbbjcfdeappaa", sum := "5847e66ed9cec22002bdf9cfa942e0b6f2bca88481b0935b6a529c954d6c39b0", checked := Try.checked }
namespace Rows
def none {H : Type} : Left H := { results := [], args := [] }

/-- 'ammonitelaw13.ControlRuns': WHATEVER THE INPUT: true; the input reads as it did. -/
def controlRunsSpec : ChangeSpec := { name := "controlRuns", fn := fun _ => fun
  | [] => { results := [.lit (.bool true)], args := [] }
  | _ => none }
def controlRunsRow : OpenClaim := { program := "ytjpbbjcfdeappaa", sum := "5847e66ed9cec22002bdf9cfa942e0b6f2bca88481b0935b6a529c954d6c39b0", func := "ammonite/ammonitelaw13.ControlRuns", spec := "controlRuns", inPlace := ["internal/bytealg.IndexByteString", "internal/abi.NoEscape", "internal/bytealg.IndexString", "internal/bytealg.MakeNoZero"], unfollowed := true, recurses := true, named := ["internal/bytealg.MaxLen"], apart := false }
def ControlRunsSaid : Prop := controlRunsRow.holds Try.pinned (OpenSpec.ofChange controlRunsSpec)

/-- ITS FALSE NEIGHBOUR: 'it returns false'. Refute it at one input. -/
def controlRunsWrong : ChangeSpec := { name := "controlRuns", fn := fun _ => fun
  | [] => { results := [.lit (.bool false)], args := [] }
  | _ => none }
def ControlRunsWrongFalsely : Prop := controlRunsRow.holds Try.pinned (OpenSpec.ofChange controlRunsWrong)

/-- 'ammonitelaw13.ControlOnly': WHATEVER THE INPUT: true; the input reads as it did. -/
def controlOnlySpec : ChangeSpec := { name := "controlOnly", fn := fun _ => fun
  | [d1, d2, d3, d4, d5, d6] => { results := [.lit (.bool true)], args := [d1, d2, d3, d4, d5, d6] }
  | _ => none }
def controlOnlyRow : OpenClaim := { program := "ytjpbbjcfdeappaa", sum := "5847e66ed9cec22002bdf9cfa942e0b6f2bca88481b0935b6a529c954d6c39b0", func := "ammonite/ammonitelaw13.ControlOnly", spec := "controlOnly", inPlace := ["internal/bytealg.IndexByteString", "internal/bytealg.IndexString", "internal/abi.NoEscape", "internal/bytealg.MakeNoZero"], unfollowed := true, recurses := true, named := ["internal/bytealg.MaxLen"], apart := false }
def ControlOnlySaid : Prop := controlOnlyRow.holds Try.pinned (OpenSpec.ofChange controlOnlySpec)

/-- ITS FALSE NEIGHBOUR: 'it returns false'. Refute it at one input. -/
def controlOnlyWrong : ChangeSpec := { name := "controlOnly", fn := fun _ => fun
  | [d1, d2, d3, d4, d5, d6] => { results := [.lit (.bool false)], args := [d1, d2, d3, d4, d5, d6] }
  | _ => none }
def ControlOnlyWrongFalsely : Prop := controlOnlyRow.holds Try.pinned (OpenSpec.ofChange controlOnlyWrong)

/-- 'ammonitelaw13.ControlTells': WHATEVER THE INPUT: true; the input reads as it did. -/
def controlTellsSpec : ChangeSpec := { name := "controlTells", fn := fun _ => fun
  | [d1, d2, d3, d4] => { results := [.lit (.bool true)], args := [d1, d2, d3, d4] }
  | _ => none }
def controlTellsRow : OpenClaim := { program := "ytjpbbjcfdeappaa", sum := "5847e66ed9cec22002bdf9cfa942e0b6f2bca88481b0935b6a529c954d6c39b0", func := "ammonite/ammonitelaw13.ControlTells", spec := "controlTells", inPlace := ["internal/bytealg.IndexByteString", "internal/abi.NoEscape", "internal/bytealg.IndexString", "internal/bytealg.MakeNoZero"], unfollowed := true, recurses := true, named := ["internal/bytealg.MaxLen"], apart := false }
def ControlTellsSaid : Prop := controlTellsRow.holds Try.pinned (OpenSpec.ofChange controlTellsSpec)

/-- ITS FALSE NEIGHBOUR: 'it returns false'. Refute it at one input. -/
def controlTellsWrong : ChangeSpec := { name := "controlTells", fn := fun _ => fun
  | [d1, d2, d3, d4] => { results := [.lit (.bool false)], args := [d1, d2, d3, d4] }
  | _ => none }
def ControlTellsWrongFalsely : Prop := controlTellsRow.holds Try.pinned (OpenSpec.ofChange controlTellsWrong)

/-- 'ammonitelaw13.ControlEdges': WHATEVER THE INPUT: true; the input reads as it did. -/
def controlEdgesSpec : ChangeSpec := { name := "controlEdges", fn := fun _ => fun
  | [d1, d2, d3, d4] => { results := [.lit (.bool true)], args := [d1, d2, d3, d4] }
  | _ => none }
def controlEdgesRow : OpenClaim := { program := "ytjpbbjcfdeappaa", sum := "5847e66ed9cec22002bdf9cfa942e0b6f2bca88481b0935b6a529c954d6c39b0", func := "ammonite/ammonitelaw13.ControlEdges", spec := "controlEdges", inPlace := ["internal/bytealg.IndexByteString", "internal/abi.NoEscape", "internal/bytealg.IndexString", "internal/bytealg.MakeNoZero"], unfollowed := true, recurses := true, named := ["internal/bytealg.MaxLen"], apart := false }
def ControlEdgesSaid : Prop := controlEdgesRow.holds Try.pinned (OpenSpec.ofChange controlEdgesSpec)

/-- ITS FALSE NEIGHBOUR: 'it returns false'. Refute it at one input. -/
def controlEdgesWrong : ChangeSpec := { name := "controlEdges", fn := fun _ => fun
  | [d1, d2, d3, d4] => { results := [.lit (.bool false)], args := [d1, d2, d3, d4] }
  | _ => none }
def ControlEdgesWrongFalsely : Prop := controlEdgesRow.holds Try.pinned (OpenSpec.ofChange controlEdgesWrong)

/- THE SECOND FORM. 'bulk': how many values and letters a reading holds, each counted each time it is reached (what is shared counts as often as it is met; a slice's spare places count too). A statement '..UptoSaid' is the law's where the arguments, and the package variables that the reading takes, are together of bulk at most 1048576: NARROWER than '..Said'. Prove '..Said' where nothing that the law and all that it calls make is longer than what came in: it says more and counts as full. Else prove '..UptoSaid'. A law counts once. -/
mutual
def uptoBulk {H : Type} : DataW H → Nat
  | .lit (.string bytes) => bytes.length + 1
  | .lit _ => 1
  | .nil => 1
  | .ptr d => uptoBulk d + 1
  | .slice elems spare => uptoBulkAll elems + uptoBulkAll spare + 1
  | .agg parts => uptoBulkAll parts + 1
  | .iface _ d => uptoBulk d + 1
  | .map entries => uptoBulkEntries entries + 1
  | .held _ => 1
def uptoBulkAll {H : Type} : List (DataW H) → Nat
  | [] => 0
  | d :: r => uptoBulk d + uptoBulkAll r
def uptoBulkEntries {H : Type} : List (Lit × DataW H) → Nat
  | [] => 0
  | x :: r => uptoBulkEntry x + uptoBulkEntries r
def uptoBulkEntry {H : Type} : Lit × DataW H → Nat
  | (.string bytes, d) => bytes.length + uptoBulk d + 1
  | (_, d) => uptoBulk d + 1
 end
def uptoSmall : (H : Type) → List (DataW H) → Bool := fun _ ds => decide (uptoBulkAll ds ≤ 1048576)
def OpenSpec.upto (s : _root_.Go.ChangeSpec) : _root_.Go.OpenSpec := { _root_.Go.OpenSpec.ofChange s with cond := some uptoSmall }

/-- 'ammonitelaw13.ControlRuns', WHERE WHAT IT READS IS OF BULK AT MOST 1048576: true; the input reads as it did. -/
def controlRunsUptoRow : OpenClaim := { program := "ytjpbbjcfdeappaa", sum := "5847e66ed9cec22002bdf9cfa942e0b6f2bca88481b0935b6a529c954d6c39b0", func := "ammonite/ammonitelaw13.ControlRuns", spec := "controlRuns", inPlace := ["internal/bytealg.IndexByteString", "internal/abi.NoEscape", "internal/bytealg.IndexString", "internal/bytealg.MakeNoZero"], unfollowed := true, recurses := true, named := ["internal/bytealg.MaxLen"], apart := false, narrowed := true }
def ControlRunsUptoSaid : Prop := controlRunsUptoRow.holds Try.pinned (OpenSpec.upto controlRunsSpec)

/-- 'ammonitelaw13.ControlOnly', WHERE WHAT IT READS IS OF BULK AT MOST 1048576: true; the input reads as it did. -/
def controlOnlyUptoRow : OpenClaim := { program := "ytjpbbjcfdeappaa", sum := "5847e66ed9cec22002bdf9cfa942e0b6f2bca88481b0935b6a529c954d6c39b0", func := "ammonite/ammonitelaw13.ControlOnly", spec := "controlOnly", inPlace := ["internal/bytealg.IndexByteString", "internal/bytealg.IndexString", "internal/abi.NoEscape", "internal/bytealg.MakeNoZero"], unfollowed := true, recurses := true, named := ["internal/bytealg.MaxLen"], apart := false, narrowed := true }
def ControlOnlyUptoSaid : Prop := controlOnlyUptoRow.holds Try.pinned (OpenSpec.upto controlOnlySpec)

/-- 'ammonitelaw13.ControlTells', WHERE WHAT IT READS IS OF BULK AT MOST 1048576: true; the input reads as it did. -/
def controlTellsUptoRow : OpenClaim := { program := "ytjpbbjcfdeappaa", sum := "5847e66ed9cec22002bdf9cfa942e0b6f2bca88481b0935b6a529c954d6c39b0", func := "ammonite/ammonitelaw13.ControlTells", spec := "controlTells", inPlace := ["internal/bytealg.IndexByteString", "internal/abi.NoEscape", "internal/bytealg.IndexString", "internal/bytealg.MakeNoZero"], unfollowed := true, recurses := true, named := ["internal/bytealg.MaxLen"], apart := false, narrowed := true }
def ControlTellsUptoSaid : Prop := controlTellsUptoRow.holds Try.pinned (OpenSpec.upto controlTellsSpec)

/-- 'ammonitelaw13.ControlEdges', WHERE WHAT IT READS IS OF BULK AT MOST 1048576: true; the input reads as it did. -/
def controlEdgesUptoRow : OpenClaim := { program := "ytjpbbjcfdeappaa", sum := "5847e66ed9cec22002bdf9cfa942e0b6f2bca88481b0935b6a529c954d6c39b0", func := "ammonite/ammonitelaw13.ControlEdges", spec := "controlEdges", inPlace := ["internal/bytealg.IndexByteString", "internal/abi.NoEscape", "internal/bytealg.IndexString", "internal/bytealg.MakeNoZero"], unfollowed := true, recurses := true, named := ["internal/bytealg.MaxLen"], apart := false, narrowed := true }
def ControlEdgesUptoSaid : Prop := controlEdgesUptoRow.holds Try.pinned (OpenSpec.upto controlEdgesSpec)

end Rows
end Go.Proofs.Ytjpbbjcfdeappaa
