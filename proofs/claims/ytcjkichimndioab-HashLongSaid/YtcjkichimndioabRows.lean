/-
  No cell of these rows narrows 'for every input' (looked for: loops, veiled, ifaces, maps, wideKeys, modest, calm, conditions, laid).
  DERIVED. THE GIVEN ROWS OF THIS SEAT. 10 by the template 'for every input the law returns true; each argument reads behind the call as it read before'; 0 by the template 'total and deterministic' (their statements: YtcjkichimndioabTotals.lean).
  GIVEN WITH THE SEED: the statements are not yours to turn. If you find one false, say at which input.
  Laid BY PROGRAM, IN A SANDBOX (cutbox-rows.mjs): the forced cells as the released guide's own fill.sh prints them over the translation 8c795680e5bee193… (all of the seat's roots in one cut). By AI agents, Wed Nov 11 2026. No macro, syntax, notation, axiom, sorry.
-/
import Derived.Test.YtcjkichimndioabChecked
import GoSem.Claim
import GoSem.ClaimJoined
import GoSem.ClaimMapViews
import Derived.JoinedTies
import Derived.KernelRfl
namespace Go.Proofs.Ytcjkichimndioab
/- THE CELL 'sum', in the pinned program and in every row, IS THE sha256 OF THE DUMP (.gsa) THAT YtcjkichimndioabProg.lean LOADS. Nothing in Lean hashes anything: it is a label: what it is worth is what the hold of that sum in a sandbox is worth. -/
noncomputable def Try.pinned : Pinned := { name := "ytcjkichimndioab", sum := "8c795680e5bee19326e9ed23a4efe19b922d1e86c0df8655f9c4f87f4c90fc28", checked := Try.checked }
namespace Rows
def none {H : Type} : Left H := { results := [], args := [] }

/-- 'ammonitelaw1.HashRuns': WHATEVER THE INPUT: true; the input reads as it did. -/
def hashRunsSpec : ChangeSpec := { name := "hashRuns", fn := fun _ => fun
  | [] => { results := [.lit (.bool true)], args := [] }
  | _ => none }
def hashRunsRow : OpenClaim := { program := "ytcjkichimndioab", sum := "8c795680e5bee19326e9ed23a4efe19b922d1e86c0df8655f9c4f87f4c90fc28", func := "ammonite/ammonitelaw1.HashRuns", spec := "hashRuns", inPlace := ["internal/bytealg.IndexByteString"], apart := false }
def HashRunsSaid : Prop := hashRunsRow.holds Try.pinned (OpenSpec.ofChange hashRunsSpec)

/-- ITS FALSE NEIGHBOUR: 'it returns false'. Refute it at one input. -/
def hashRunsWrong : ChangeSpec := { name := "hashRuns", fn := fun _ => fun
  | [] => { results := [.lit (.bool false)], args := [] }
  | _ => none }
def HashRunsWrongFalsely : Prop := hashRunsRow.holds Try.pinned (OpenSpec.ofChange hashRunsWrong)

/-- 'ammonitelaw1.HashTells': WHATEVER THE INPUT: true; the input reads as it did. -/
def hashTellsSpec : ChangeSpec := { name := "hashTells", fn := fun _ => fun
  | [d1, d2, d3, d4] => { results := [.lit (.bool true)], args := [d1, d2, d3, d4] }
  | _ => none }
def hashTellsRow : OpenClaim := { program := "ytcjkichimndioab", sum := "8c795680e5bee19326e9ed23a4efe19b922d1e86c0df8655f9c4f87f4c90fc28", func := "ammonite/ammonitelaw1.HashTells", spec := "hashTells", inPlace := ["internal/bytealg.IndexByteString"], apart := false }
def HashTellsSaid : Prop := hashTellsRow.holds Try.pinned (OpenSpec.ofChange hashTellsSpec)

/-- ITS FALSE NEIGHBOUR: 'it returns false'. Refute it at one input. -/
def hashTellsWrong : ChangeSpec := { name := "hashTells", fn := fun _ => fun
  | [d1, d2, d3, d4] => { results := [.lit (.bool false)], args := [d1, d2, d3, d4] }
  | _ => none }
def HashTellsWrongFalsely : Prop := hashTellsRow.holds Try.pinned (OpenSpec.ofChange hashTellsWrong)

/-- 'ammonitelaw1.HashLong': WHATEVER THE INPUT: true; the input reads as it did. -/
def hashLongSpec : ChangeSpec := { name := "hashLong", fn := fun _ => fun
  | [d1, d2] => { results := [.lit (.bool true)], args := [d1, d2] }
  | _ => none }
def hashLongRow : OpenClaim := { program := "ytcjkichimndioab", sum := "8c795680e5bee19326e9ed23a4efe19b922d1e86c0df8655f9c4f87f4c90fc28", func := "ammonite/ammonitelaw1.HashLong", spec := "hashLong", inPlace := ["internal/bytealg.IndexByteString"], apart := false }
def HashLongSaid : Prop := hashLongRow.holds Try.pinned (OpenSpec.ofChange hashLongSpec)

/-- ITS FALSE NEIGHBOUR: 'it returns false'. Refute it at one input. -/
def hashLongWrong : ChangeSpec := { name := "hashLong", fn := fun _ => fun
  | [d1, d2] => { results := [.lit (.bool false)], args := [d1, d2] }
  | _ => none }
def HashLongWrongFalsely : Prop := hashLongRow.holds Try.pinned (OpenSpec.ofChange hashLongWrong)

/-- 'ammonitelaw3.DeltaRuns': WHATEVER THE INPUT: true; the input reads as it did. -/
def deltaRunsSpec : ChangeSpec := { name := "deltaRuns", fn := fun _ => fun
  | [] => { results := [.lit (.bool true)], args := [] }
  | _ => none }
def deltaRunsRow : OpenClaim := { program := "ytcjkichimndioab", sum := "8c795680e5bee19326e9ed23a4efe19b922d1e86c0df8655f9c4f87f4c90fc28", func := "ammonite/ammonitelaw3.DeltaRuns", spec := "deltaRuns", inPlace := ["internal/bytealg.IndexByteString"], apart := false }
def DeltaRunsSaid : Prop := deltaRunsRow.holds Try.pinned (OpenSpec.ofChange deltaRunsSpec)

/-- ITS FALSE NEIGHBOUR: 'it returns false'. Refute it at one input. -/
def deltaRunsWrong : ChangeSpec := { name := "deltaRuns", fn := fun _ => fun
  | [] => { results := [.lit (.bool false)], args := [] }
  | _ => none }
def DeltaRunsWrongFalsely : Prop := deltaRunsRow.holds Try.pinned (OpenSpec.ofChange deltaRunsWrong)

/-- 'ammonitelaw3.DeltaTells': WHATEVER THE INPUT: true; the input reads as it did. -/
def deltaTellsSpec : ChangeSpec := { name := "deltaTells", fn := fun _ => fun
  | [d1, d2, d3, d4, d5, d6] => { results := [.lit (.bool true)], args := [d1, d2, d3, d4, d5, d6] }
  | _ => none }
def deltaTellsRow : OpenClaim := { program := "ytcjkichimndioab", sum := "8c795680e5bee19326e9ed23a4efe19b922d1e86c0df8655f9c4f87f4c90fc28", func := "ammonite/ammonitelaw3.DeltaTells", spec := "deltaTells", inPlace := ["internal/bytealg.IndexByteString"], recurses := true, apart := false }
def DeltaTellsSaid : Prop := deltaTellsRow.holds Try.pinned (OpenSpec.ofChange deltaTellsSpec)

/-- ITS FALSE NEIGHBOUR: 'it returns false'. Refute it at one input. -/
def deltaTellsWrong : ChangeSpec := { name := "deltaTells", fn := fun _ => fun
  | [d1, d2, d3, d4, d5, d6] => { results := [.lit (.bool false)], args := [d1, d2, d3, d4, d5, d6] }
  | _ => none }
def DeltaTellsWrongFalsely : Prop := deltaTellsRow.holds Try.pinned (OpenSpec.ofChange deltaTellsWrong)

/-- 'ammonitelaw3.DeltaParts': WHATEVER THE INPUT: true; the input reads as it did. -/
def deltaPartsSpec : ChangeSpec := { name := "deltaParts", fn := fun _ => fun
  | [d1, d2, d3] => { results := [.lit (.bool true)], args := [d1, d2, d3] }
  | _ => none }
def deltaPartsRow : OpenClaim := { program := "ytcjkichimndioab", sum := "8c795680e5bee19326e9ed23a4efe19b922d1e86c0df8655f9c4f87f4c90fc28", func := "ammonite/ammonitelaw3.DeltaParts", spec := "deltaParts", inPlace := ["internal/bytealg.IndexByteString"], apart := false }
def DeltaPartsSaid : Prop := deltaPartsRow.holds Try.pinned (OpenSpec.ofChange deltaPartsSpec)

/-- ITS FALSE NEIGHBOUR: 'it returns false'. Refute it at one input. -/
def deltaPartsWrong : ChangeSpec := { name := "deltaParts", fn := fun _ => fun
  | [d1, d2, d3] => { results := [.lit (.bool false)], args := [d1, d2, d3] }
  | _ => none }
def DeltaPartsWrongFalsely : Prop := deltaPartsRow.holds Try.pinned (OpenSpec.ofChange deltaPartsWrong)

/-- 'ammonitelaw1.HashFinds': WHATEVER THE INPUT: true; the input reads as it did. -/
def hashFindsSpec : ChangeSpec := { name := "hashFinds", fn := fun _ => fun
  | [d1, d2, d3] => { results := [.lit (.bool true)], args := [d1, d2, d3] }
  | _ => none }
def hashFindsRow : OpenClaim := { program := "ytcjkichimndioab", sum := "8c795680e5bee19326e9ed23a4efe19b922d1e86c0df8655f9c4f87f4c90fc28", func := "ammonite/ammonitelaw1.HashFinds", spec := "hashFinds", inPlace := ["internal/bytealg.IndexByteString"], apart := false }
def HashFindsSaid : Prop := hashFindsRow.holds Try.pinned (OpenSpec.ofChange hashFindsSpec)

/-- ITS FALSE NEIGHBOUR: 'it returns false'. Refute it at one input. -/
def hashFindsWrong : ChangeSpec := { name := "hashFinds", fn := fun _ => fun
  | [d1, d2, d3] => { results := [.lit (.bool false)], args := [d1, d2, d3] }
  | _ => none }
def HashFindsWrongFalsely : Prop := hashFindsRow.holds Try.pinned (OpenSpec.ofChange hashFindsWrong)

/-- 'ammonitelaw1.HashParts': WHATEVER THE INPUT: true; the input reads as it did. -/
def hashPartsSpec : ChangeSpec := { name := "hashParts", fn := fun _ => fun
  | [d1, d2] => { results := [.lit (.bool true)], args := [d1, d2] }
  | _ => none }
def hashPartsRow : OpenClaim := { program := "ytcjkichimndioab", sum := "8c795680e5bee19326e9ed23a4efe19b922d1e86c0df8655f9c4f87f4c90fc28", func := "ammonite/ammonitelaw1.HashParts", spec := "hashParts", inPlace := ["internal/bytealg.IndexByteString"], apart := false }
def HashPartsSaid : Prop := hashPartsRow.holds Try.pinned (OpenSpec.ofChange hashPartsSpec)

/-- ITS FALSE NEIGHBOUR: 'it returns false'. Refute it at one input. -/
def hashPartsWrong : ChangeSpec := { name := "hashParts", fn := fun _ => fun
  | [d1, d2] => { results := [.lit (.bool false)], args := [d1, d2] }
  | _ => none }
def HashPartsWrongFalsely : Prop := hashPartsRow.holds Try.pinned (OpenSpec.ofChange hashPartsWrong)

/-- 'ammonitelaw3.DeltaMakes': WHATEVER THE INPUT: true; the input reads as it did. -/
def deltaMakesSpec : ChangeSpec := { name := "deltaMakes", fn := fun _ => fun
  | [d1, d2, d3] => { results := [.lit (.bool true)], args := [d1, d2, d3] }
  | _ => none }
def deltaMakesRow : OpenClaim := { program := "ytcjkichimndioab", sum := "8c795680e5bee19326e9ed23a4efe19b922d1e86c0df8655f9c4f87f4c90fc28", func := "ammonite/ammonitelaw3.DeltaMakes", spec := "deltaMakes", inPlace := ["internal/bytealg.IndexByteString"], apart := false }
def DeltaMakesSaid : Prop := deltaMakesRow.holds Try.pinned (OpenSpec.ofChange deltaMakesSpec)

/-- ITS FALSE NEIGHBOUR: 'it returns false'. Refute it at one input. -/
def deltaMakesWrong : ChangeSpec := { name := "deltaMakes", fn := fun _ => fun
  | [d1, d2, d3] => { results := [.lit (.bool false)], args := [d1, d2, d3] }
  | _ => none }
def DeltaMakesWrongFalsely : Prop := deltaMakesRow.holds Try.pinned (OpenSpec.ofChange deltaMakesWrong)

/-- 'ammonitelaw3.DeltaLimits': WHATEVER THE INPUT: true; the input reads as it did. -/
def deltaLimitsSpec : ChangeSpec := { name := "deltaLimits", fn := fun _ => fun
  | [d1, d2] => { results := [.lit (.bool true)], args := [d1, d2] }
  | _ => none }
def deltaLimitsRow : OpenClaim := { program := "ytcjkichimndioab", sum := "8c795680e5bee19326e9ed23a4efe19b922d1e86c0df8655f9c4f87f4c90fc28", func := "ammonite/ammonitelaw3.DeltaLimits", spec := "deltaLimits", inPlace := ["internal/bytealg.IndexByteString"], apart := false }
def DeltaLimitsSaid : Prop := deltaLimitsRow.holds Try.pinned (OpenSpec.ofChange deltaLimitsSpec)

/-- ITS FALSE NEIGHBOUR: 'it returns false'. Refute it at one input. -/
def deltaLimitsWrong : ChangeSpec := { name := "deltaLimits", fn := fun _ => fun
  | [d1, d2] => { results := [.lit (.bool false)], args := [d1, d2] }
  | _ => none }
def DeltaLimitsWrongFalsely : Prop := deltaLimitsRow.holds Try.pinned (OpenSpec.ofChange deltaLimitsWrong)

/- THE SECOND FORM. 'bulk': how many values and letters a reading holds, each counted each time it is reached (what is shared counts as often as it is met; a slice's spare places count too). A statement '..UptoSaid' is the law's where the arguments, and the package variables that the reading takes, are together of bulk at most 1048576: NARROWER than '..Said'. Prove '..Said' where nothing that the law and all that it calls make is longer than what came in: it says more and counts as full. Else prove '..UptoSaid'. A law counts once. -/
mutual
def uptoBulk {H : Type} : DataW H → Nat
  | .lit (.string bytes) => bytes.length + 1
  | .lit _ => 1
  | .nil => 1
  | .ptr d => uptoBulk d + 1
  | .slice elems spare => uptoBulkAll elems + uptoBulkAll spare + 1
  | .agg parts => uptoBulkAll parts + 1
  | .iface _ d => uptoBulk d + 1
  | .map entries => uptoBulkEntries entries + 1
  | .held _ => 1
def uptoBulkAll {H : Type} : List (DataW H) → Nat
  | [] => 0
  | d :: r => uptoBulk d + uptoBulkAll r
def uptoBulkEntries {H : Type} : List (Lit × DataW H) → Nat
  | [] => 0
  | x :: r => uptoBulkEntry x + uptoBulkEntries r
def uptoBulkEntry {H : Type} : Lit × DataW H → Nat
  | (.string bytes, d) => bytes.length + uptoBulk d + 1
  | (_, d) => uptoBulk d + 1
 end
def uptoSmall : (H : Type) → List (DataW H) → Bool := fun _ ds => decide (uptoBulkAll ds ≤ 1048576)
def OpenSpec.upto (s : _root_.Go.ChangeSpec) : _root_.Go.OpenSpec := { _root_.Go.OpenSpec.ofChange s with cond := some uptoSmall }

/-- 'ammonitelaw1.HashRuns', WHERE WHAT IT READS IS OF BULK AT MOST 1048576: true; the input reads as it did. -/
def hashRunsUptoRow : OpenClaim := { program := "ytcjkichimndioab", sum := "8c795680e5bee19326e9ed23a4efe19b922d1e86c0df8655f9c4f87f4c90fc28", func := "ammonite/ammonitelaw1.HashRuns", spec := "hashRuns", inPlace := ["internal/bytealg.IndexByteString"], apart := false, narrowed := true }
def HashRunsUptoSaid : Prop := hashRunsUptoRow.holds Try.pinned (OpenSpec.upto hashRunsSpec)

/-- 'ammonitelaw1.HashTells', WHERE WHAT IT READS IS OF BULK AT MOST 1048576: true; the input reads as it did. -/
def hashTellsUptoRow : OpenClaim := { program := "ytcjkichimndioab", sum := "8c795680e5bee19326e9ed23a4efe19b922d1e86c0df8655f9c4f87f4c90fc28", func := "ammonite/ammonitelaw1.HashTells", spec := "hashTells", inPlace := ["internal/bytealg.IndexByteString"], apart := false, narrowed := true }
def HashTellsUptoSaid : Prop := hashTellsUptoRow.holds Try.pinned (OpenSpec.upto hashTellsSpec)

/-- 'ammonitelaw1.HashLong', WHERE WHAT IT READS IS OF BULK AT MOST 1048576: true; the input reads as it did. -/
def hashLongUptoRow : OpenClaim := { program := "ytcjkichimndioab", sum := "8c795680e5bee19326e9ed23a4efe19b922d1e86c0df8655f9c4f87f4c90fc28", func := "ammonite/ammonitelaw1.HashLong", spec := "hashLong", inPlace := ["internal/bytealg.IndexByteString"], apart := false, narrowed := true }
def HashLongUptoSaid : Prop := hashLongUptoRow.holds Try.pinned (OpenSpec.upto hashLongSpec)

/-- 'ammonitelaw3.DeltaRuns', WHERE WHAT IT READS IS OF BULK AT MOST 1048576: true; the input reads as it did. -/
def deltaRunsUptoRow : OpenClaim := { program := "ytcjkichimndioab", sum := "8c795680e5bee19326e9ed23a4efe19b922d1e86c0df8655f9c4f87f4c90fc28", func := "ammonite/ammonitelaw3.DeltaRuns", spec := "deltaRuns", inPlace := ["internal/bytealg.IndexByteString"], apart := false, narrowed := true }
def DeltaRunsUptoSaid : Prop := deltaRunsUptoRow.holds Try.pinned (OpenSpec.upto deltaRunsSpec)

/-- 'ammonitelaw3.DeltaTells', WHERE WHAT IT READS IS OF BULK AT MOST 1048576: true; the input reads as it did. -/
def deltaTellsUptoRow : OpenClaim := { program := "ytcjkichimndioab", sum := "8c795680e5bee19326e9ed23a4efe19b922d1e86c0df8655f9c4f87f4c90fc28", func := "ammonite/ammonitelaw3.DeltaTells", spec := "deltaTells", inPlace := ["internal/bytealg.IndexByteString"], recurses := true, apart := false, narrowed := true }
def DeltaTellsUptoSaid : Prop := deltaTellsUptoRow.holds Try.pinned (OpenSpec.upto deltaTellsSpec)

/-- 'ammonitelaw3.DeltaParts', WHERE WHAT IT READS IS OF BULK AT MOST 1048576: true; the input reads as it did. -/
def deltaPartsUptoRow : OpenClaim := { program := "ytcjkichimndioab", sum := "8c795680e5bee19326e9ed23a4efe19b922d1e86c0df8655f9c4f87f4c90fc28", func := "ammonite/ammonitelaw3.DeltaParts", spec := "deltaParts", inPlace := ["internal/bytealg.IndexByteString"], apart := false, narrowed := true }
def DeltaPartsUptoSaid : Prop := deltaPartsUptoRow.holds Try.pinned (OpenSpec.upto deltaPartsSpec)

/-- 'ammonitelaw1.HashFinds', WHERE WHAT IT READS IS OF BULK AT MOST 1048576: true; the input reads as it did. -/
def hashFindsUptoRow : OpenClaim := { program := "ytcjkichimndioab", sum := "8c795680e5bee19326e9ed23a4efe19b922d1e86c0df8655f9c4f87f4c90fc28", func := "ammonite/ammonitelaw1.HashFinds", spec := "hashFinds", inPlace := ["internal/bytealg.IndexByteString"], apart := false, narrowed := true }
def HashFindsUptoSaid : Prop := hashFindsUptoRow.holds Try.pinned (OpenSpec.upto hashFindsSpec)

/-- 'ammonitelaw1.HashParts', WHERE WHAT IT READS IS OF BULK AT MOST 1048576: true; the input reads as it did. -/
def hashPartsUptoRow : OpenClaim := { program := "ytcjkichimndioab", sum := "8c795680e5bee19326e9ed23a4efe19b922d1e86c0df8655f9c4f87f4c90fc28", func := "ammonite/ammonitelaw1.HashParts", spec := "hashParts", inPlace := ["internal/bytealg.IndexByteString"], apart := false, narrowed := true }
def HashPartsUptoSaid : Prop := hashPartsUptoRow.holds Try.pinned (OpenSpec.upto hashPartsSpec)

/-- 'ammonitelaw3.DeltaMakes', WHERE WHAT IT READS IS OF BULK AT MOST 1048576: true; the input reads as it did. -/
def deltaMakesUptoRow : OpenClaim := { program := "ytcjkichimndioab", sum := "8c795680e5bee19326e9ed23a4efe19b922d1e86c0df8655f9c4f87f4c90fc28", func := "ammonite/ammonitelaw3.DeltaMakes", spec := "deltaMakes", inPlace := ["internal/bytealg.IndexByteString"], apart := false, narrowed := true }
def DeltaMakesUptoSaid : Prop := deltaMakesUptoRow.holds Try.pinned (OpenSpec.upto deltaMakesSpec)

/-- 'ammonitelaw3.DeltaLimits', WHERE WHAT IT READS IS OF BULK AT MOST 1048576: true; the input reads as it did. -/
def deltaLimitsUptoRow : OpenClaim := { program := "ytcjkichimndioab", sum := "8c795680e5bee19326e9ed23a4efe19b922d1e86c0df8655f9c4f87f4c90fc28", func := "ammonite/ammonitelaw3.DeltaLimits", spec := "deltaLimits", inPlace := ["internal/bytealg.IndexByteString"], apart := false, narrowed := true }
def DeltaLimitsUptoSaid : Prop := deltaLimitsUptoRow.holds Try.pinned (OpenSpec.upto deltaLimitsSpec)

end Rows
end Go.Proofs.Ytcjkichimndioab
