/-
  No cell of these rows narrows 'for every input' (looked for: loops, veiled, ifaces, maps, wideKeys, modest, calm, conditions, laid).
  DERIVED. THE GIVEN ROWS OF THIS SEAT. 4 by the template 'for every input the law returns true; each argument reads behind the call as it read before'; 0 by the template 'total and deterministic' (their statements: YtldbhkhblkgnnaaTotals.lean).
  GIVEN WITH THE SEED: the statements are not yours to turn. If you find one false, say at which input.
  Laid BY PROGRAM, IN A SANDBOX (cutbox-rows.mjs): the forced cells as the released guide's own fill.sh prints them over the translation f39dfdbb443f0228… (all of the seat's roots in one cut). By AI agents, Wed Nov 11 2026. No macro, syntax, notation, axiom, sorry.
-/
import Derived.Test.YtldbhkhblkgnnaaChecked
import GoSem.Claim
import GoSem.ClaimJoined
import GoSem.ClaimMapViews
import Derived.JoinedTies
import Derived.KernelRfl
namespace Go.Proofs.Ytldbhkhblkgnnaa
/- THE CELL 'sum', in the pinned program and in every row, IS THE sha256 OF THE DUMP (.gsa) THAT YtldbhkhblkgnnaaProg.lean LOADS. Nothing in Lean hashes anything: it is a label: what it is worth is what the hold of that sum in a sandbox is worth. -/
noncomputable def Try.pinned : Pinned := { name := "ytldbhkhblkgnnaa", sum := "f39dfdbb443f022864031f0bfa1723d942397da4569fb8acfc84bda7888ac598", checked := Try.checked }
namespace Rows
def none {H : Type} : Left H := { results := [], args := [] }

/-- 'ammonitelaw22.LoginRuns': WHATEVER THE INPUT: true; the input reads as it did. -/
def loginRunsSpec : ChangeSpec := { name := "loginRuns", fn := fun _ => fun
  | [] => { results := [.lit (.bool true)], args := [] }
  | _ => none }
def loginRunsRow : OpenClaim := { program := "ytldbhkhblkgnnaa", sum := "f39dfdbb443f022864031f0bfa1723d942397da4569fb8acfc84bda7888ac598", func := "ammonite/ammonitelaw22.LoginRuns", spec := "loginRuns", inPlace := ["internal/bytealg.IndexByteString", "internal/abi.NoEscape", "internal/bytealg.MakeNoZero"], apart := false }
def LoginRunsSaid : Prop := loginRunsRow.holds Try.pinned (OpenSpec.ofChange loginRunsSpec)

/-- ITS FALSE NEIGHBOUR: 'it returns false'. Refute it at one input. -/
def loginRunsWrong : ChangeSpec := { name := "loginRuns", fn := fun _ => fun
  | [] => { results := [.lit (.bool false)], args := [] }
  | _ => none }
def LoginRunsWrongFalsely : Prop := loginRunsRow.holds Try.pinned (OpenSpec.ofChange loginRunsWrong)

/-- 'ammonitelaw22.LoginTells': WHATEVER THE INPUT: true; the input reads as it did. -/
def loginTellsSpec : ChangeSpec := { name := "loginTells", fn := fun _ => fun
  | [d1, d2, d3, d4, d5] => { results := [.lit (.bool true)], args := [d1, d2, d3, d4, d5] }
  | _ => none }
def loginTellsRow : OpenClaim := { program := "ytldbhkhblkgnnaa", sum := "f39dfdbb443f022864031f0bfa1723d942397da4569fb8acfc84bda7888ac598", func := "ammonite/ammonitelaw22.LoginTells", spec := "loginTells", inPlace := ["internal/bytealg.IndexByteString", "internal/abi.NoEscape", "internal/bytealg.MakeNoZero"], recurses := true, apart := false }
def LoginTellsSaid : Prop := loginTellsRow.holds Try.pinned (OpenSpec.ofChange loginTellsSpec)

/-- ITS FALSE NEIGHBOUR: 'it returns false'. Refute it at one input. -/
def loginTellsWrong : ChangeSpec := { name := "loginTells", fn := fun _ => fun
  | [d1, d2, d3, d4, d5] => { results := [.lit (.bool false)], args := [d1, d2, d3, d4, d5] }
  | _ => none }
def LoginTellsWrongFalsely : Prop := loginTellsRow.holds Try.pinned (OpenSpec.ofChange loginTellsWrong)

/-- 'ammonitelaw22.LoginOthers': WHATEVER THE INPUT: true; the input reads as it did. -/
def loginOthersSpec : ChangeSpec := { name := "loginOthers", fn := fun _ => fun
  | [d1, d2, d3, d4] => { results := [.lit (.bool true)], args := [d1, d2, d3, d4] }
  | _ => none }
def loginOthersRow : OpenClaim := { program := "ytldbhkhblkgnnaa", sum := "f39dfdbb443f022864031f0bfa1723d942397da4569fb8acfc84bda7888ac598", func := "ammonite/ammonitelaw22.LoginOthers", spec := "loginOthers", inPlace := ["internal/bytealg.IndexByteString", "internal/abi.NoEscape", "internal/bytealg.MakeNoZero"], recurses := true, apart := false }
def LoginOthersSaid : Prop := loginOthersRow.holds Try.pinned (OpenSpec.ofChange loginOthersSpec)

/-- ITS FALSE NEIGHBOUR: 'it returns false'. Refute it at one input. -/
def loginOthersWrong : ChangeSpec := { name := "loginOthers", fn := fun _ => fun
  | [d1, d2, d3, d4] => { results := [.lit (.bool false)], args := [d1, d2, d3, d4] }
  | _ => none }
def LoginOthersWrongFalsely : Prop := loginOthersRow.holds Try.pinned (OpenSpec.ofChange loginOthersWrong)

/-- 'ammonitelaw22.LoginRights': WHATEVER THE INPUT: true; the input reads as it did. -/
def loginRightsSpec : ChangeSpec := { name := "loginRights", fn := fun _ => fun
  | [d1, d2, d3] => { results := [.lit (.bool true)], args := [d1, d2, d3] }
  | _ => none }
def loginRightsRow : OpenClaim := { program := "ytldbhkhblkgnnaa", sum := "f39dfdbb443f022864031f0bfa1723d942397da4569fb8acfc84bda7888ac598", func := "ammonite/ammonitelaw22.LoginRights", spec := "loginRights", inPlace := ["internal/bytealg.IndexByteString", "internal/abi.NoEscape", "internal/bytealg.MakeNoZero"], apart := false }
def LoginRightsSaid : Prop := loginRightsRow.holds Try.pinned (OpenSpec.ofChange loginRightsSpec)

/-- ITS FALSE NEIGHBOUR: 'it returns false'. Refute it at one input. -/
def loginRightsWrong : ChangeSpec := { name := "loginRights", fn := fun _ => fun
  | [d1, d2, d3] => { results := [.lit (.bool false)], args := [d1, d2, d3] }
  | _ => none }
def LoginRightsWrongFalsely : Prop := loginRightsRow.holds Try.pinned (OpenSpec.ofChange loginRightsWrong)

/- THE SECOND FORM. 'bulk': how many values and letters a reading holds, each counted each time it is reached (what is shared counts as often as it is met; a slice's spare places count too). A statement '..UptoSaid' is the law's where the arguments, and the package variables that the reading takes, are together of bulk at most 1048576: NARROWER than '..Said'. Prove '..Said' where nothing that the law and all that it calls make is longer than what came in: it says more and counts as full. Else prove '..UptoSaid'. A law counts once. -/
mutual
def uptoBulk {H : Type} : DataW H → Nat
  | .lit (.string bytes) => bytes.length + 1
  | .lit _ => 1
  | .nil => 1
  | .ptr d => uptoBulk d + 1
  | .slice elems spare => uptoBulkAll elems + uptoBulkAll spare + 1
  | .agg parts => uptoBulkAll parts + 1
  | .iface _ d => uptoBulk d + 1
  | .map entries => uptoBulkEntries entries + 1
  | .held _ => 1
def uptoBulkAll {H : Type} : List (DataW H) → Nat
  | [] => 0
  | d :: r => uptoBulk d + uptoBulkAll r
def uptoBulkEntries {H : Type} : List (Lit × DataW H) → Nat
  | [] => 0
  | x :: r => uptoBulkEntry x + uptoBulkEntries r
def uptoBulkEntry {H : Type} : Lit × DataW H → Nat
  | (.string bytes, d) => bytes.length + uptoBulk d + 1
  | (_, d) => uptoBulk d + 1
 end
def uptoSmall : (H : Type) → List (DataW H) → Bool := fun _ ds => decide (uptoBulkAll ds ≤ 1048576)
def OpenSpec.upto (s : _root_.Go.ChangeSpec) : _root_.Go.OpenSpec := { _root_.Go.OpenSpec.ofChange s with cond := some uptoSmall }

/-- 'ammonitelaw22.LoginRuns', WHERE WHAT IT READS IS OF BULK AT MOST 1048576: true; the input reads as it did. -/
def loginRunsUptoRow : OpenClaim := { program := "ytldbhkhblkgnnaa", sum := "f39dfdbb443f022864031f0bfa1723d942397da4569fb8acfc84bda7888ac598", func := "ammonite/ammonitelaw22.LoginRuns", spec := "loginRuns", inPlace := ["internal/bytealg.IndexByteString", "internal/abi.NoEscape", "internal/bytealg.MakeNoZero"], apart := false, narrowed := true }
def LoginRunsUptoSaid : Prop := loginRunsUptoRow.holds Try.pinned (OpenSpec.upto loginRunsSpec)

/-- 'ammonitelaw22.LoginTells', WHERE WHAT IT READS IS OF BULK AT MOST 1048576: true; the input reads as it did. -/
def loginTellsUptoRow : OpenClaim := { program := "ytldbhkhblkgnnaa", sum := "f39dfdbb443f022864031f0bfa1723d942397da4569fb8acfc84bda7888ac598", func := "ammonite/ammonitelaw22.LoginTells", spec := "loginTells", inPlace := ["internal/bytealg.IndexByteString", "internal/abi.NoEscape", "internal/bytealg.MakeNoZero"], recurses := true, apart := false, narrowed := true }
def LoginTellsUptoSaid : Prop := loginTellsUptoRow.holds Try.pinned (OpenSpec.upto loginTellsSpec)

/-- 'ammonitelaw22.LoginOthers', WHERE WHAT IT READS IS OF BULK AT MOST 1048576: true; the input reads as it did. -/
def loginOthersUptoRow : OpenClaim := { program := "ytldbhkhblkgnnaa", sum := "f39dfdbb443f022864031f0bfa1723d942397da4569fb8acfc84bda7888ac598", func := "ammonite/ammonitelaw22.LoginOthers", spec := "loginOthers", inPlace := ["internal/bytealg.IndexByteString", "internal/abi.NoEscape", "internal/bytealg.MakeNoZero"], recurses := true, apart := false, narrowed := true }
def LoginOthersUptoSaid : Prop := loginOthersUptoRow.holds Try.pinned (OpenSpec.upto loginOthersSpec)

/-- 'ammonitelaw22.LoginRights', WHERE WHAT IT READS IS OF BULK AT MOST 1048576: true; the input reads as it did. -/
def loginRightsUptoRow : OpenClaim := { program := "ytldbhkhblkgnnaa", sum := "f39dfdbb443f022864031f0bfa1723d942397da4569fb8acfc84bda7888ac598", func := "ammonite/ammonitelaw22.LoginRights", spec := "loginRights", inPlace := ["internal/bytealg.IndexByteString", "internal/abi.NoEscape", "internal/bytealg.MakeNoZero"], apart := false, narrowed := true }
def LoginRightsUptoSaid : Prop := loginRightsUptoRow.holds Try.pinned (OpenSpec.upto loginRightsSpec)

end Rows
end Go.Proofs.Ytldbhkhblkgnnaa
