/-
  No cell of these rows narrows 'for every input' (looked for: loops, veiled, ifaces, maps, wideKeys, modest, calm, conditions, laid).
  DERIVED. THE GIVEN ROWS OF THIS SEAT. 6 by the template 'for every input the law returns true; each argument reads behind the call as it read before'; 0 by the template 'total and deterministic' (their statements: YtpnnnhdhmdildaaTotals.lean).
  GIVEN WITH THE SEED: the statements are not yours to turn. If you find one false, say at which input.
  Laid BY PROGRAM, IN A SANDBOX (cutbox-rows.mjs): the forced cells as the released guide's own fill.sh prints them over the translation 138a8274dd4fe974… (all of the seat's roots in one cut). By AI agents, Wed Nov 11 2026. No macro, syntax, notation, axiom, sorry.
-/
import Derived.Test.YtpnnnhdhmdildaaChecked
import GoSem.Claim
import GoSem.ClaimJoined
import GoSem.ClaimMapViews
import Derived.JoinedTies
import Derived.KernelRfl
namespace Go.Proofs.Ytpnnnhdhmdildaa
/- THE CELL 'sum', in the pinned program and in every row, IS THE sha256 OF THE DUMP (.gsa) THAT YtpnnnhdhmdildaaProg.lean LOADS. Nothing in Lean hashes anything: it is a label: what it is worth is what the hold of that sum in a sandbox is worth. -/
noncomputable def Try.pinned : Pinned := { name := "ytpnnnhdhmdildaa", sum := "138a8274dd4fe974046d9ddf02c281394510eb978390085039dbd66273a3d4bf", checked := Try.checked }
namespace Rows
def none {H : Type} : Left H := { results := [], args := [] }

/-- 'ammonitelaw6.JournalRuns': WHATEVER THE INPUT: true; the input reads as it did. -/
def journalRunsSpec : ChangeSpec := { name := "journalRuns", fn := fun _ => fun
  | [] => { results := [.lit (.bool true)], args := [] }
  | _ => none }
def journalRunsRow : OpenClaim := { program := "ytpnnnhdhmdildaa", sum := "138a8274dd4fe974046d9ddf02c281394510eb978390085039dbd66273a3d4bf", func := "ammonite/ammonitelaw6.JournalRuns", spec := "journalRuns", inPlace := ["internal/abi.NoEscape", "internal/bytealg.MakeNoZero"], unfollowed := true, recurses := true, apart := false }
def JournalRunsSaid : Prop := journalRunsRow.holds Try.pinned (OpenSpec.ofChange journalRunsSpec)

/-- ITS FALSE NEIGHBOUR: 'it returns false'. Refute it at one input. -/
def journalRunsWrong : ChangeSpec := { name := "journalRuns", fn := fun _ => fun
  | [] => { results := [.lit (.bool false)], args := [] }
  | _ => none }
def JournalRunsWrongFalsely : Prop := journalRunsRow.holds Try.pinned (OpenSpec.ofChange journalRunsWrong)

/-- 'ammonitelaw6.JournalPieces': WHATEVER THE INPUT: true; the input reads as it did. -/
def journalPiecesSpec : ChangeSpec := { name := "journalPieces", fn := fun _ => fun
  | [d1, d2] => { results := [.lit (.bool true)], args := [d1, d2] }
  | _ => none }
def journalPiecesRow : OpenClaim := { program := "ytpnnnhdhmdildaa", sum := "138a8274dd4fe974046d9ddf02c281394510eb978390085039dbd66273a3d4bf", func := "ammonite/ammonitelaw6.JournalPieces", spec := "journalPieces", inPlace := ["internal/abi.NoEscape", "internal/bytealg.MakeNoZero"], unfollowed := true, recurses := true, apart := false }
def JournalPiecesSaid : Prop := journalPiecesRow.holds Try.pinned (OpenSpec.ofChange journalPiecesSpec)

/-- ITS FALSE NEIGHBOUR: 'it returns false'. Refute it at one input. -/
def journalPiecesWrong : ChangeSpec := { name := "journalPieces", fn := fun _ => fun
  | [d1, d2] => { results := [.lit (.bool false)], args := [d1, d2] }
  | _ => none }
def JournalPiecesWrongFalsely : Prop := journalPiecesRow.holds Try.pinned (OpenSpec.ofChange journalPiecesWrong)

/-- 'ammonitelaw6.JournalDown': WHATEVER THE INPUT: true; the input reads as it did. -/
def journalDownSpec : ChangeSpec := { name := "journalDown", fn := fun _ => fun
  | [d1, d2, d3] => { results := [.lit (.bool true)], args := [d1, d2, d3] }
  | _ => none }
def journalDownRow : OpenClaim := { program := "ytpnnnhdhmdildaa", sum := "138a8274dd4fe974046d9ddf02c281394510eb978390085039dbd66273a3d4bf", func := "ammonite/ammonitelaw6.JournalDown", spec := "journalDown", inPlace := ["internal/abi.NoEscape", "internal/bytealg.MakeNoZero"], unfollowed := true, recurses := true, apart := false }
def JournalDownSaid : Prop := journalDownRow.holds Try.pinned (OpenSpec.ofChange journalDownSpec)

/-- ITS FALSE NEIGHBOUR: 'it returns false'. Refute it at one input. -/
def journalDownWrong : ChangeSpec := { name := "journalDown", fn := fun _ => fun
  | [d1, d2, d3] => { results := [.lit (.bool false)], args := [d1, d2, d3] }
  | _ => none }
def JournalDownWrongFalsely : Prop := journalDownRow.holds Try.pinned (OpenSpec.ofChange journalDownWrong)

/-- 'ammonitelaw6.JournalTorn': WHATEVER THE INPUT: true; the input reads as it did. -/
def journalTornSpec : ChangeSpec := { name := "journalTorn", fn := fun _ => fun
  | [d1, d2, d3] => { results := [.lit (.bool true)], args := [d1, d2, d3] }
  | _ => none }
def journalTornRow : OpenClaim := { program := "ytpnnnhdhmdildaa", sum := "138a8274dd4fe974046d9ddf02c281394510eb978390085039dbd66273a3d4bf", func := "ammonite/ammonitelaw6.JournalTorn", spec := "journalTorn", inPlace := ["internal/abi.NoEscape", "internal/bytealg.MakeNoZero"], unfollowed := true, recurses := true, apart := false }
def JournalTornSaid : Prop := journalTornRow.holds Try.pinned (OpenSpec.ofChange journalTornSpec)

/-- ITS FALSE NEIGHBOUR: 'it returns false'. Refute it at one input. -/
def journalTornWrong : ChangeSpec := { name := "journalTorn", fn := fun _ => fun
  | [d1, d2, d3] => { results := [.lit (.bool false)], args := [d1, d2, d3] }
  | _ => none }
def JournalTornWrongFalsely : Prop := journalTornRow.holds Try.pinned (OpenSpec.ofChange journalTornWrong)

/-- 'ammonitelaw6.JournalMany': WHATEVER THE INPUT: true; the input reads as it did. -/
def journalManySpec : ChangeSpec := { name := "journalMany", fn := fun _ => fun
  | [d1, d2, d3] => { results := [.lit (.bool true)], args := [d1, d2, d3] }
  | _ => none }
def journalManyRow : OpenClaim := { program := "ytpnnnhdhmdildaa", sum := "138a8274dd4fe974046d9ddf02c281394510eb978390085039dbd66273a3d4bf", func := "ammonite/ammonitelaw6.JournalMany", spec := "journalMany", inPlace := ["internal/abi.NoEscape", "internal/bytealg.MakeNoZero"], unfollowed := true, recurses := true, apart := false }
def JournalManySaid : Prop := journalManyRow.holds Try.pinned (OpenSpec.ofChange journalManySpec)

/-- ITS FALSE NEIGHBOUR: 'it returns false'. Refute it at one input. -/
def journalManyWrong : ChangeSpec := { name := "journalMany", fn := fun _ => fun
  | [d1, d2, d3] => { results := [.lit (.bool false)], args := [d1, d2, d3] }
  | _ => none }
def JournalManyWrongFalsely : Prop := journalManyRow.holds Try.pinned (OpenSpec.ofChange journalManyWrong)

/-- 'ammonitelaw6.JournalPlays': WHATEVER THE INPUT: true; the input reads as it did. -/
def journalPlaysSpec : ChangeSpec := { name := "journalPlays", fn := fun _ => fun
  | [d1, d2] => { results := [.lit (.bool true)], args := [d1, d2] }
  | _ => none }
def journalPlaysRow : OpenClaim := { program := "ytpnnnhdhmdildaa", sum := "138a8274dd4fe974046d9ddf02c281394510eb978390085039dbd66273a3d4bf", func := "ammonite/ammonitelaw6.JournalPlays", spec := "journalPlays", inPlace := ["internal/abi.NoEscape", "internal/bytealg.MakeNoZero"], unfollowed := true, recurses := true, apart := false }
def JournalPlaysSaid : Prop := journalPlaysRow.holds Try.pinned (OpenSpec.ofChange journalPlaysSpec)

/-- ITS FALSE NEIGHBOUR: 'it returns false'. Refute it at one input. -/
def journalPlaysWrong : ChangeSpec := { name := "journalPlays", fn := fun _ => fun
  | [d1, d2] => { results := [.lit (.bool false)], args := [d1, d2] }
  | _ => none }
def JournalPlaysWrongFalsely : Prop := journalPlaysRow.holds Try.pinned (OpenSpec.ofChange journalPlaysWrong)

/- THE SECOND FORM. 'bulk': how many values and letters a reading holds, each counted each time it is reached (what is shared counts as often as it is met; a slice's spare places count too). A statement '..UptoSaid' is the law's where the arguments, and the package variables that the reading takes, are together of bulk at most 1048576: NARROWER than '..Said'. Prove '..Said' where nothing that the law and all that it calls make is longer than what came in: it says more and counts as full. Else prove '..UptoSaid'. A law counts once. -/
mutual
def uptoBulk {H : Type} : DataW H → Nat
  | .lit (.string bytes) => bytes.length + 1
  | .lit _ => 1
  | .nil => 1
  | .ptr d => uptoBulk d + 1
  | .slice elems spare => uptoBulkAll elems + uptoBulkAll spare + 1
  | .agg parts => uptoBulkAll parts + 1
  | .iface _ d => uptoBulk d + 1
  | .map entries => uptoBulkEntries entries + 1
  | .held _ => 1
def uptoBulkAll {H : Type} : List (DataW H) → Nat
  | [] => 0
  | d :: r => uptoBulk d + uptoBulkAll r
def uptoBulkEntries {H : Type} : List (Lit × DataW H) → Nat
  | [] => 0
  | x :: r => uptoBulkEntry x + uptoBulkEntries r
def uptoBulkEntry {H : Type} : Lit × DataW H → Nat
  | (.string bytes, d) => bytes.length + uptoBulk d + 1
  | (_, d) => uptoBulk d + 1
 end
def uptoSmall : (H : Type) → List (DataW H) → Bool := fun _ ds => decide (uptoBulkAll ds ≤ 1048576)
def OpenSpec.upto (s : _root_.Go.ChangeSpec) : _root_.Go.OpenSpec := { _root_.Go.OpenSpec.ofChange s with cond := some uptoSmall }

/-- 'ammonitelaw6.JournalRuns', WHERE WHAT IT READS IS OF BULK AT MOST 1048576: true; the input reads as it did. -/
def journalRunsUptoRow : OpenClaim := { program := "ytpnnnhdhmdildaa", sum := "138a8274dd4fe974046d9ddf02c281394510eb978390085039dbd66273a3d4bf", func := "ammonite/ammonitelaw6.JournalRuns", spec := "journalRuns", inPlace := ["internal/abi.NoEscape", "internal/bytealg.MakeNoZero"], unfollowed := true, recurses := true, apart := false, narrowed := true }
def JournalRunsUptoSaid : Prop := journalRunsUptoRow.holds Try.pinned (OpenSpec.upto journalRunsSpec)

/-- 'ammonitelaw6.JournalPieces', WHERE WHAT IT READS IS OF BULK AT MOST 1048576: true; the input reads as it did. -/
def journalPiecesUptoRow : OpenClaim := { program := "ytpnnnhdhmdildaa", sum := "138a8274dd4fe974046d9ddf02c281394510eb978390085039dbd66273a3d4bf", func := "ammonite/ammonitelaw6.JournalPieces", spec := "journalPieces", inPlace := ["internal/abi.NoEscape", "internal/bytealg.MakeNoZero"], unfollowed := true, recurses := true, apart := false, narrowed := true }
def JournalPiecesUptoSaid : Prop := journalPiecesUptoRow.holds Try.pinned (OpenSpec.upto journalPiecesSpec)

/-- 'ammonitelaw6.JournalDown', WHERE WHAT IT READS IS OF BULK AT MOST 1048576: true; the input reads as it did. -/
def journalDownUptoRow : OpenClaim := { program := "ytpnnnhdhmdildaa", sum := "138a8274dd4fe974046d9ddf02c281394510eb978390085039dbd66273a3d4bf", func := "ammonite/ammonitelaw6.JournalDown", spec := "journalDown", inPlace := ["internal/abi.NoEscape", "internal/bytealg.MakeNoZero"], unfollowed := true, recurses := true, apart := false, narrowed := true }
def JournalDownUptoSaid : Prop := journalDownUptoRow.holds Try.pinned (OpenSpec.upto journalDownSpec)

/-- 'ammonitelaw6.JournalTorn', WHERE WHAT IT READS IS OF BULK AT MOST 1048576: true; the input reads as it did. -/
def journalTornUptoRow : OpenClaim := { program := "ytpnnnhdhmdildaa", sum := "138a8274dd4fe974046d9ddf02c281394510eb978390085039dbd66273a3d4bf", func := "ammonite/ammonitelaw6.JournalTorn", spec := "journalTorn", inPlace := ["internal/abi.NoEscape", "internal/bytealg.MakeNoZero"], unfollowed := true, recurses := true, apart := false, narrowed := true }
def JournalTornUptoSaid : Prop := journalTornUptoRow.holds Try.pinned (OpenSpec.upto journalTornSpec)

/-- 'ammonitelaw6.JournalMany', WHERE WHAT IT READS IS OF BULK AT MOST 1048576: true; the input reads as it did. -/
def journalManyUptoRow : OpenClaim := { program := "ytpnnnhdhmdildaa", sum := "138a8274dd4fe974046d9ddf02c281394510eb978390085039dbd66273a3d4bf", func := "ammonite/ammonitelaw6.JournalMany", spec := "journalMany", inPlace := ["internal/abi.NoEscape", "internal/bytealg.MakeNoZero"], unfollowed := true, recurses := true, apart := false, narrowed := true }
def JournalManyUptoSaid : Prop := journalManyUptoRow.holds Try.pinned (OpenSpec.upto journalManySpec)

/-- 'ammonitelaw6.JournalPlays', WHERE WHAT IT READS IS OF BULK AT MOST 1048576: true; the input reads as it did. -/
def journalPlaysUptoRow : OpenClaim := { program := "ytpnnnhdhmdildaa", sum := "138a8274dd4fe974046d9ddf02c281394510eb978390085039dbd66273a3d4bf", func := "ammonite/ammonitelaw6.JournalPlays", spec := "journalPlays", inPlace := ["internal/abi.NoEscape", "internal/bytealg.MakeNoZero"], unfollowed := true, recurses := true, apart := false, narrowed := true }
def JournalPlaysUptoSaid : Prop := journalPlaysUptoRow.holds Try.pinned (OpenSpec.upto journalPlaysSpec)

end Rows
end Go.Proofs.Ytpnnnhdhmdildaa
