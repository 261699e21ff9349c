/-
  No cell of these rows narrows 'for every input' (looked for: loops, veiled, ifaces, maps, wideKeys, modest, calm, conditions, laid).
  DERIVED. THE GIVEN ROWS OF THIS SEAT. 10 by the template 'for every input the law returns true; each argument reads behind the call as it read before'; 0 by the template 'total and deterministic' (their statements: YtcjkichimndioaaTotals.lean).
  GIVEN WITH THE SEED: the statements are not yours to turn. If you find one false, say at which input.
  Laid BY PROGRAM, IN A SANDBOX (cutbox-rows.mjs): the forced cells as the released guide's own fill.sh prints them over the translation 049bafa403cac307… (all of the seat's roots in one cut). By AI agents, Wed Nov 11 2026. No macro, syntax, notation, axiom, sorry.
-/
import Derived.Test.YtcjkichimndioaaChecked
import GoSem.Claim
import GoSem.ClaimJoined
import GoSem.ClaimMapViews
import Derived.JoinedTies
import Derived.KernelRfl
namespace Go.Proofs.Ytcjkichimndioaa
/- THE CELL 'sum', in the pinned program and in every row, IS THE sha256 OF THE DUMP (.gsa) THAT YtcjkichimndioaaProg.lean LOADS. Nothing in Lean hashes anything: it is a label: what it is worth is what the hold of that sum in a sandbox is worth. -/
noncomputable def Try.pinned : Pinned := { name := "ytcjkichimndioaa", sum := "049bafa403cac3075e7e9db2c2ee0898c53504283b1d8e3d62004867867a3961", checked := Try.checked }
namespace Rows
def none {H : Type} : Left H := { results := [], args := [] }

/-- 'ammonitelaw2.DigitRuns': WHATEVER THE INPUT: true; the input reads as it did. -/
def digitRunsSpec : ChangeSpec := { name := "digitRuns", fn := fun _ => fun
  | [] => { results := [.lit (.bool true)], args := [] }
  | _ => none }
def digitRunsRow : OpenClaim := { program := "ytcjkichimndioaa", sum := "049bafa403cac3075e7e9db2c2ee0898c53504283b1d8e3d62004867867a3961", func := "ammonite/ammonitelaw2.DigitRuns", spec := "digitRuns", inPlace := ["internal/bytealg.IndexByteString"], apart := false }
def DigitRunsSaid : Prop := digitRunsRow.holds Try.pinned (OpenSpec.ofChange digitRunsSpec)

/-- ITS FALSE NEIGHBOUR: 'it returns false'. Refute it at one input. -/
def digitRunsWrong : ChangeSpec := { name := "digitRuns", fn := fun _ => fun
  | [] => { results := [.lit (.bool false)], args := [] }
  | _ => none }
def DigitRunsWrongFalsely : Prop := digitRunsRow.holds Try.pinned (OpenSpec.ofChange digitRunsWrong)

/-- 'ammonitelaw2.DigitTells': WHATEVER THE INPUT: true; the input reads as it did. -/
def digitTellsSpec : ChangeSpec := { name := "digitTells", fn := fun _ => fun
  | [d1, d2, d3] => { results := [.lit (.bool true)], args := [d1, d2, d3] }
  | _ => none }
def digitTellsRow : OpenClaim := { program := "ytcjkichimndioaa", sum := "049bafa403cac3075e7e9db2c2ee0898c53504283b1d8e3d62004867867a3961", func := "ammonite/ammonitelaw2.DigitTells", spec := "digitTells", inPlace := ["internal/bytealg.IndexByteString"], recurses := true, apart := false }
def DigitTellsSaid : Prop := digitTellsRow.holds Try.pinned (OpenSpec.ofChange digitTellsSpec)

/-- ITS FALSE NEIGHBOUR: 'it returns false'. Refute it at one input. -/
def digitTellsWrong : ChangeSpec := { name := "digitTells", fn := fun _ => fun
  | [d1, d2, d3] => { results := [.lit (.bool false)], args := [d1, d2, d3] }
  | _ => none }
def DigitTellsWrongFalsely : Prop := digitTellsRow.holds Try.pinned (OpenSpec.ofChange digitTellsWrong)

/-- 'ammonitelaw2.DigitBack': WHATEVER THE INPUT: true; the input reads as it did. -/
def digitBackSpec : ChangeSpec := { name := "digitBack", fn := fun _ => fun
  | [d1, d2, d3, d4] => { results := [.lit (.bool true)], args := [d1, d2, d3, d4] }
  | _ => none }
def digitBackRow : OpenClaim := { program := "ytcjkichimndioaa", sum := "049bafa403cac3075e7e9db2c2ee0898c53504283b1d8e3d62004867867a3961", func := "ammonite/ammonitelaw2.DigitBack", spec := "digitBack", inPlace := ["internal/bytealg.IndexByteString"], apart := false }
def DigitBackSaid : Prop := digitBackRow.holds Try.pinned (OpenSpec.ofChange digitBackSpec)

/-- ITS FALSE NEIGHBOUR: 'it returns false'. Refute it at one input. -/
def digitBackWrong : ChangeSpec := { name := "digitBack", fn := fun _ => fun
  | [d1, d2, d3, d4] => { results := [.lit (.bool false)], args := [d1, d2, d3, d4] }
  | _ => none }
def DigitBackWrongFalsely : Prop := digitBackRow.holds Try.pinned (OpenSpec.ofChange digitBackWrong)

/-- 'ammonitelaw2.DigitOrder': WHATEVER THE INPUT: true; the input reads as it did. -/
def digitOrderSpec : ChangeSpec := { name := "digitOrder", fn := fun _ => fun
  | [d1, d2] => { results := [.lit (.bool true)], args := [d1, d2] }
  | _ => none }
def digitOrderRow : OpenClaim := { program := "ytcjkichimndioaa", sum := "049bafa403cac3075e7e9db2c2ee0898c53504283b1d8e3d62004867867a3961", func := "ammonite/ammonitelaw2.DigitOrder", spec := "digitOrder", inPlace := ["internal/bytealg.IndexByteString"], apart := false }
def DigitOrderSaid : Prop := digitOrderRow.holds Try.pinned (OpenSpec.ofChange digitOrderSpec)

/-- ITS FALSE NEIGHBOUR: 'it returns false'. Refute it at one input. -/
def digitOrderWrong : ChangeSpec := { name := "digitOrder", fn := fun _ => fun
  | [d1, d2] => { results := [.lit (.bool false)], args := [d1, d2] }
  | _ => none }
def DigitOrderWrongFalsely : Prop := digitOrderRow.holds Try.pinned (OpenSpec.ofChange digitOrderWrong)

/-- 'ammonitelaw2.DigitStops': WHATEVER THE INPUT: true; the input reads as it did. -/
def digitStopsSpec : ChangeSpec := { name := "digitStops", fn := fun _ => fun
  | [d1, d2, d3] => { results := [.lit (.bool true)], args := [d1, d2, d3] }
  | _ => none }
def digitStopsRow : OpenClaim := { program := "ytcjkichimndioaa", sum := "049bafa403cac3075e7e9db2c2ee0898c53504283b1d8e3d62004867867a3961", func := "ammonite/ammonitelaw2.DigitStops", spec := "digitStops", inPlace := ["internal/bytealg.IndexByteString"], apart := false }
def DigitStopsSaid : Prop := digitStopsRow.holds Try.pinned (OpenSpec.ofChange digitStopsSpec)

/-- ITS FALSE NEIGHBOUR: 'it returns false'. Refute it at one input. -/
def digitStopsWrong : ChangeSpec := { name := "digitStops", fn := fun _ => fun
  | [d1, d2, d3] => { results := [.lit (.bool false)], args := [d1, d2, d3] }
  | _ => none }
def DigitStopsWrongFalsely : Prop := digitStopsRow.holds Try.pinned (OpenSpec.ofChange digitStopsWrong)

/-- 'ammonitelaw4.SqueezeRuns': WHATEVER THE INPUT: true; the input reads as it did. -/
def squeezeRunsSpec : ChangeSpec := { name := "squeezeRuns", fn := fun _ => fun
  | [] => { results := [.lit (.bool true)], args := [] }
  | _ => none }
def squeezeRunsRow : OpenClaim := { program := "ytcjkichimndioaa", sum := "049bafa403cac3075e7e9db2c2ee0898c53504283b1d8e3d62004867867a3961", func := "ammonite/ammonitelaw4.SqueezeRuns", spec := "squeezeRuns", inPlace := ["internal/bytealg.IndexByteString"], apart := false }
def SqueezeRunsSaid : Prop := squeezeRunsRow.holds Try.pinned (OpenSpec.ofChange squeezeRunsSpec)

/-- ITS FALSE NEIGHBOUR: 'it returns false'. Refute it at one input. -/
def squeezeRunsWrong : ChangeSpec := { name := "squeezeRuns", fn := fun _ => fun
  | [] => { results := [.lit (.bool false)], args := [] }
  | _ => none }
def SqueezeRunsWrongFalsely : Prop := squeezeRunsRow.holds Try.pinned (OpenSpec.ofChange squeezeRunsWrong)

/-- 'ammonitelaw4.SqueezeBombs': WHATEVER THE INPUT: true; the input reads as it did. -/
def squeezeBombsSpec : ChangeSpec := { name := "squeezeBombs", fn := fun _ => fun
  | [d1, d2, d3, d4] => { results := [.lit (.bool true)], args := [d1, d2, d3, d4] }
  | _ => none }
def squeezeBombsRow : OpenClaim := { program := "ytcjkichimndioaa", sum := "049bafa403cac3075e7e9db2c2ee0898c53504283b1d8e3d62004867867a3961", func := "ammonite/ammonitelaw4.SqueezeBombs", spec := "squeezeBombs", inPlace := ["internal/bytealg.IndexByteString"], apart := false }
def SqueezeBombsSaid : Prop := squeezeBombsRow.holds Try.pinned (OpenSpec.ofChange squeezeBombsSpec)

/-- ITS FALSE NEIGHBOUR: 'it returns false'. Refute it at one input. -/
def squeezeBombsWrong : ChangeSpec := { name := "squeezeBombs", fn := fun _ => fun
  | [d1, d2, d3, d4] => { results := [.lit (.bool false)], args := [d1, d2, d3, d4] }
  | _ => none }
def SqueezeBombsWrongFalsely : Prop := squeezeBombsRow.holds Try.pinned (OpenSpec.ofChange squeezeBombsWrong)

/-- 'ammonitelaw4.SqueezePieces': WHATEVER THE INPUT: true; the input reads as it did. -/
def squeezePiecesSpec : ChangeSpec := { name := "squeezePieces", fn := fun _ => fun
  | [d1, d2, d3, d4] => { results := [.lit (.bool true)], args := [d1, d2, d3, d4] }
  | _ => none }
def squeezePiecesRow : OpenClaim := { program := "ytcjkichimndioaa", sum := "049bafa403cac3075e7e9db2c2ee0898c53504283b1d8e3d62004867867a3961", func := "ammonite/ammonitelaw4.SqueezePieces", spec := "squeezePieces", inPlace := ["internal/bytealg.IndexByteString"], apart := false }
def SqueezePiecesSaid : Prop := squeezePiecesRow.holds Try.pinned (OpenSpec.ofChange squeezePiecesSpec)

/-- ITS FALSE NEIGHBOUR: 'it returns false'. Refute it at one input. -/
def squeezePiecesWrong : ChangeSpec := { name := "squeezePieces", fn := fun _ => fun
  | [d1, d2, d3, d4] => { results := [.lit (.bool false)], args := [d1, d2, d3, d4] }
  | _ => none }
def SqueezePiecesWrongFalsely : Prop := squeezePiecesRow.holds Try.pinned (OpenSpec.ofChange squeezePiecesWrong)

/-- 'ammonitelaw4.SqueezeTells': WHATEVER THE INPUT: true; the input reads as it did. -/
def squeezeTellsSpec : ChangeSpec := { name := "squeezeTells", fn := fun _ => fun
  | [d1, d2, d3, d4, d5, d6, d7] => { results := [.lit (.bool true)], args := [d1, d2, d3, d4, d5, d6, d7] }
  | _ => none }
def squeezeTellsRow : OpenClaim := { program := "ytcjkichimndioaa", sum := "049bafa403cac3075e7e9db2c2ee0898c53504283b1d8e3d62004867867a3961", func := "ammonite/ammonitelaw4.SqueezeTells", spec := "squeezeTells", inPlace := ["internal/bytealg.IndexByteString"], recurses := true, apart := false }
def SqueezeTellsSaid : Prop := squeezeTellsRow.holds Try.pinned (OpenSpec.ofChange squeezeTellsSpec)

/-- ITS FALSE NEIGHBOUR: 'it returns false'. Refute it at one input. -/
def squeezeTellsWrong : ChangeSpec := { name := "squeezeTells", fn := fun _ => fun
  | [d1, d2, d3, d4, d5, d6, d7] => { results := [.lit (.bool false)], args := [d1, d2, d3, d4, d5, d6, d7] }
  | _ => none }
def SqueezeTellsWrongFalsely : Prop := squeezeTellsRow.holds Try.pinned (OpenSpec.ofChange squeezeTellsWrong)

/-- 'ammonitelaw4.SqueezeBack': WHATEVER THE INPUT: true; the input reads as it did. -/
def squeezeBackSpec : ChangeSpec := { name := "squeezeBack", fn := fun _ => fun
  | [d1, d2, d3, d4] => { results := [.lit (.bool true)], args := [d1, d2, d3, d4] }
  | _ => none }
def squeezeBackRow : OpenClaim := { program := "ytcjkichimndioaa", sum := "049bafa403cac3075e7e9db2c2ee0898c53504283b1d8e3d62004867867a3961", func := "ammonite/ammonitelaw4.SqueezeBack", spec := "squeezeBack", inPlace := ["internal/bytealg.IndexByteString"], apart := false }
def SqueezeBackSaid : Prop := squeezeBackRow.holds Try.pinned (OpenSpec.ofChange squeezeBackSpec)

/-- ITS FALSE NEIGHBOUR: 'it returns false'. Refute it at one input. -/
def squeezeBackWrong : ChangeSpec := { name := "squeezeBack", fn := fun _ => fun
  | [d1, d2, d3, d4] => { results := [.lit (.bool false)], args := [d1, d2, d3, d4] }
  | _ => none }
def SqueezeBackWrongFalsely : Prop := squeezeBackRow.holds Try.pinned (OpenSpec.ofChange squeezeBackWrong)

/- THE SECOND FORM. 'bulk': how many values and letters a reading holds, each counted each time it is reached (what is shared counts as often as it is met; a slice's spare places count too). A statement '..UptoSaid' is the law's where the arguments, and the package variables that the reading takes, are together of bulk at most 1048576: NARROWER than '..Said'. Prove '..Said' where nothing that the law and all that it calls make is longer than what came in: it says more and counts as full. Else prove '..UptoSaid'. A law counts once. -/
mutual
def uptoBulk {H : Type} : DataW H → Nat
  | .lit (.string bytes) => bytes.length + 1
  | .lit _ => 1
  | .nil => 1
  | .ptr d => uptoBulk d + 1
  | .slice elems spare => uptoBulkAll elems + uptoBulkAll spare + 1
  | .agg parts => uptoBulkAll parts + 1
  | .iface _ d => uptoBulk d + 1
  | .map entries => uptoBulkEntries entries + 1
  | .held _ => 1
def uptoBulkAll {H : Type} : List (DataW H) → Nat
  | [] => 0
  | d :: r => uptoBulk d + uptoBulkAll r
def uptoBulkEntries {H : Type} : List (Lit × DataW H) → Nat
  | [] => 0
  | x :: r => uptoBulkEntry x + uptoBulkEntries r
def uptoBulkEntry {H : Type} : Lit × DataW H → Nat
  | (.string bytes, d) => bytes.length + uptoBulk d + 1
  | (_, d) => uptoBulk d + 1
 end
def uptoSmall : (H : Type) → List (DataW H) → Bool := fun _ ds => decide (uptoBulkAll ds ≤ 1048576)
def OpenSpec.upto (s : _root_.Go.ChangeSpec) : _root_.Go.OpenSpec := { _root_.Go.OpenSpec.ofChange s with cond := some uptoSmall }

/-- 'ammonitelaw2.DigitRuns', WHERE WHAT IT READS IS OF BULK AT MOST 1048576: true; the input reads as it did. -/
def digitRunsUptoRow : OpenClaim := { program := "ytcjkichimndioaa", sum := "049bafa403cac3075e7e9db2c2ee0898c53504283b1d8e3d62004867867a3961", func := "ammonite/ammonitelaw2.DigitRuns", spec := "digitRuns", inPlace := ["internal/bytealg.IndexByteString"], apart := false, narrowed := true }
def DigitRunsUptoSaid : Prop := digitRunsUptoRow.holds Try.pinned (OpenSpec.upto digitRunsSpec)

/-- 'ammonitelaw2.DigitTells', WHERE WHAT IT READS IS OF BULK AT MOST 1048576: true; the input reads as it did. -/
def digitTellsUptoRow : OpenClaim := { program := "ytcjkichimndioaa", sum := "049bafa403cac3075e7e9db2c2ee0898c53504283b1d8e3d62004867867a3961", func := "ammonite/ammonitelaw2.DigitTells", spec := "digitTells", inPlace := ["internal/bytealg.IndexByteString"], recurses := true, apart := false, narrowed := true }
def DigitTellsUptoSaid : Prop := digitTellsUptoRow.holds Try.pinned (OpenSpec.upto digitTellsSpec)

/-- 'ammonitelaw2.DigitBack', WHERE WHAT IT READS IS OF BULK AT MOST 1048576: true; the input reads as it did. -/
def digitBackUptoRow : OpenClaim := { program := "ytcjkichimndioaa", sum := "049bafa403cac3075e7e9db2c2ee0898c53504283b1d8e3d62004867867a3961", func := "ammonite/ammonitelaw2.DigitBack", spec := "digitBack", inPlace := ["internal/bytealg.IndexByteString"], apart := false, narrowed := true }
def DigitBackUptoSaid : Prop := digitBackUptoRow.holds Try.pinned (OpenSpec.upto digitBackSpec)

/-- 'ammonitelaw2.DigitOrder', WHERE WHAT IT READS IS OF BULK AT MOST 1048576: true; the input reads as it did. -/
def digitOrderUptoRow : OpenClaim := { program := "ytcjkichimndioaa", sum := "049bafa403cac3075e7e9db2c2ee0898c53504283b1d8e3d62004867867a3961", func := "ammonite/ammonitelaw2.DigitOrder", spec := "digitOrder", inPlace := ["internal/bytealg.IndexByteString"], apart := false, narrowed := true }
def DigitOrderUptoSaid : Prop := digitOrderUptoRow.holds Try.pinned (OpenSpec.upto digitOrderSpec)

/-- 'ammonitelaw2.DigitStops', WHERE WHAT IT READS IS OF BULK AT MOST 1048576: true; the input reads as it did. -/
def digitStopsUptoRow : OpenClaim := { program := "ytcjkichimndioaa", sum := "049bafa403cac3075e7e9db2c2ee0898c53504283b1d8e3d62004867867a3961", func := "ammonite/ammonitelaw2.DigitStops", spec := "digitStops", inPlace := ["internal/bytealg.IndexByteString"], apart := false, narrowed := true }
def DigitStopsUptoSaid : Prop := digitStopsUptoRow.holds Try.pinned (OpenSpec.upto digitStopsSpec)

/-- 'ammonitelaw4.SqueezeRuns', WHERE WHAT IT READS IS OF BULK AT MOST 1048576: true; the input reads as it did. -/
def squeezeRunsUptoRow : OpenClaim := { program := "ytcjkichimndioaa", sum := "049bafa403cac3075e7e9db2c2ee0898c53504283b1d8e3d62004867867a3961", func := "ammonite/ammonitelaw4.SqueezeRuns", spec := "squeezeRuns", inPlace := ["internal/bytealg.IndexByteString"], apart := false, narrowed := true }
def SqueezeRunsUptoSaid : Prop := squeezeRunsUptoRow.holds Try.pinned (OpenSpec.upto squeezeRunsSpec)

/-- 'ammonitelaw4.SqueezeBombs', WHERE WHAT IT READS IS OF BULK AT MOST 1048576: true; the input reads as it did. -/
def squeezeBombsUptoRow : OpenClaim := { program := "ytcjkichimndioaa", sum := "049bafa403cac3075e7e9db2c2ee0898c53504283b1d8e3d62004867867a3961", func := "ammonite/ammonitelaw4.SqueezeBombs", spec := "squeezeBombs", inPlace := ["internal/bytealg.IndexByteString"], apart := false, narrowed := true }
def SqueezeBombsUptoSaid : Prop := squeezeBombsUptoRow.holds Try.pinned (OpenSpec.upto squeezeBombsSpec)

/-- 'ammonitelaw4.SqueezePieces', WHERE WHAT IT READS IS OF BULK AT MOST 1048576: true; the input reads as it did. -/
def squeezePiecesUptoRow : OpenClaim := { program := "ytcjkichimndioaa", sum := "049bafa403cac3075e7e9db2c2ee0898c53504283b1d8e3d62004867867a3961", func := "ammonite/ammonitelaw4.SqueezePieces", spec := "squeezePieces", inPlace := ["internal/bytealg.IndexByteString"], apart := false, narrowed := true }
def SqueezePiecesUptoSaid : Prop := squeezePiecesUptoRow.holds Try.pinned (OpenSpec.upto squeezePiecesSpec)

/-- 'ammonitelaw4.SqueezeTells', WHERE WHAT IT READS IS OF BULK AT MOST 1048576: true; the input reads as it did. -/
def squeezeTellsUptoRow : OpenClaim := { program := "ytcjkichimndioaa", sum := "049bafa403cac3075e7e9db2c2ee0898c53504283b1d8e3d62004867867a3961", func := "ammonite/ammonitelaw4.SqueezeTells", spec := "squeezeTells", inPlace := ["internal/bytealg.IndexByteString"], recurses := true, apart := false, narrowed := true }
def SqueezeTellsUptoSaid : Prop := squeezeTellsUptoRow.holds Try.pinned (OpenSpec.upto squeezeTellsSpec)

/-- 'ammonitelaw4.SqueezeBack', WHERE WHAT IT READS IS OF BULK AT MOST 1048576: true; the input reads as it did. -/
def squeezeBackUptoRow : OpenClaim := { program := "ytcjkichimndioaa", sum := "049bafa403cac3075e7e9db2c2ee0898c53504283b1d8e3d62004867867a3961", func := "ammonite/ammonitelaw4.SqueezeBack", spec := "squeezeBack", inPlace := ["internal/bytealg.IndexByteString"], apart := false, narrowed := true }
def SqueezeBackUptoSaid : Prop := squeezeBackUptoRow.holds Try.pinned (OpenSpec.upto squeezeBackSpec)

end Rows
end Go.Proofs.Ytcjkichimndioaa
