/-
  No cell of these rows narrows 'for every input' (looked for: loops, veiled, ifaces, maps, wideKeys, modest, calm, conditions, laid).
  DERIVED. THE GIVEN ROWS OF THIS SEAT. 5 by the template 'for every input the law returns true; each argument reads behind the call as it read before'; 0 by the template 'total and deterministic' (their statements: YtlecpcofgnincaaTotals.lean).
  GIVEN WITH THE SEED: the statements are not yours to turn. If you find one false, say at which input.
  Laid BY PROGRAM, IN A SANDBOX (cutbox-rows.mjs): the forced cells as the released guide's own fill.sh prints them over the translation 185e7d31cfc455dc… (all of the seat's roots in one cut). By AI agents, Wed Nov 11 2026. No macro, syntax, notation, axiom, sorry.
-/
import Derived.Test.YtlecpcofgnincaaChecked
import GoSem.Claim
import GoSem.ClaimJoined
import GoSem.ClaimMapViews
import Derived.JoinedTies
import Derived.KernelRfl
namespace Go.Proofs.Ytlecpcofgnincaa
/- THE CELL 'sum', in the pinned program and in every row, IS THE sha256 OF THE DUMP (.gsa) THAT YtlecpcofgnincaaProg.lean LOADS. Nothing in Lean hashes anything: it is a label: what it is worth is what the hold of that sum in a sandbox is worth. -/
noncomputable def Try.pinned : Pinned := { name := "ytlecpcofgnincaa", sum := "185e7d31cfc455dcd6390540fdc47bdb0949a81f7dfecbbc7adcfe35c709ecfc", checked := Try.checked }
namespace Rows
def none {H : Type} : Left H := { results := [], args := [] }

/-- 'ammonitelaw11.CardRuns': WHATEVER THE INPUT: true; the input reads as it did. -/
def cardRunsSpec : ChangeSpec := { name := "cardRuns", fn := fun _ => fun
  | [] => { results := [.lit (.bool true)], args := [] }
  | _ => none }
def cardRunsRow : OpenClaim := { program := "ytlecpcofgnincaa", sum := "185e7d31cfc455dcd6390540fdc47bdb0949a81f7dfecbbc7adcfe35c709ecfc", func := "ammonite/ammonitelaw11.CardRuns", spec := "cardRuns", inPlace := ["internal/bytealg.IndexByteString", "internal/bytealg.IndexString", "internal/abi.NoEscape", "internal/bytealg.MakeNoZero"], unfollowed := true, recurses := true, named := ["internal/bytealg.MaxLen"], apart := false }
def CardRunsSaid : Prop := cardRunsRow.holds Try.pinned (OpenSpec.ofChange cardRunsSpec)

/-- ITS FALSE NEIGHBOUR: 'it returns false'. Refute it at one input. -/
def cardRunsWrong : ChangeSpec := { name := "cardRuns", fn := fun _ => fun
  | [] => { results := [.lit (.bool false)], args := [] }
  | _ => none }
def CardRunsWrongFalsely : Prop := cardRunsRow.holds Try.pinned (OpenSpec.ofChange cardRunsWrong)

/-- 'ammonitelaw11.CardBack': WHATEVER THE INPUT: true; the input reads as it did. -/
def cardBackSpec : ChangeSpec := { name := "cardBack", fn := fun _ => fun
  | [d1, d2, d3] => { results := [.lit (.bool true)], args := [d1, d2, d3] }
  | _ => none }
def cardBackRow : OpenClaim := { program := "ytlecpcofgnincaa", sum := "185e7d31cfc455dcd6390540fdc47bdb0949a81f7dfecbbc7adcfe35c709ecfc", func := "ammonite/ammonitelaw11.CardBack", spec := "cardBack", inPlace := ["internal/bytealg.IndexByteString", "internal/bytealg.IndexString", "internal/abi.NoEscape", "internal/bytealg.MakeNoZero"], unfollowed := true, recurses := true, named := ["internal/bytealg.MaxLen"], apart := false }
def CardBackSaid : Prop := cardBackRow.holds Try.pinned (OpenSpec.ofChange cardBackSpec)

/-- ITS FALSE NEIGHBOUR: 'it returns false'. Refute it at one input. -/
def cardBackWrong : ChangeSpec := { name := "cardBack", fn := fun _ => fun
  | [d1, d2, d3] => { results := [.lit (.bool false)], args := [d1, d2, d3] }
  | _ => none }
def CardBackWrongFalsely : Prop := cardBackRow.holds Try.pinned (OpenSpec.ofChange cardBackWrong)

/-- 'ammonitelaw11.CardOnly': WHATEVER THE INPUT: true; the input reads as it did. -/
def cardOnlySpec : ChangeSpec := { name := "cardOnly", fn := fun _ => fun
  | [d1, d2, d3, d4, d5] => { results := [.lit (.bool true)], args := [d1, d2, d3, d4, d5] }
  | _ => none }
def cardOnlyRow : OpenClaim := { program := "ytlecpcofgnincaa", sum := "185e7d31cfc455dcd6390540fdc47bdb0949a81f7dfecbbc7adcfe35c709ecfc", func := "ammonite/ammonitelaw11.CardOnly", spec := "cardOnly", inPlace := ["internal/bytealg.IndexByteString", "internal/bytealg.IndexString", "internal/abi.NoEscape", "internal/bytealg.MakeNoZero"], unfollowed := true, recurses := true, named := ["internal/bytealg.MaxLen"], apart := false }
def CardOnlySaid : Prop := cardOnlyRow.holds Try.pinned (OpenSpec.ofChange cardOnlySpec)

/-- ITS FALSE NEIGHBOUR: 'it returns false'. Refute it at one input. -/
def cardOnlyWrong : ChangeSpec := { name := "cardOnly", fn := fun _ => fun
  | [d1, d2, d3, d4, d5] => { results := [.lit (.bool false)], args := [d1, d2, d3, d4, d5] }
  | _ => none }
def CardOnlyWrongFalsely : Prop := cardOnlyRow.holds Try.pinned (OpenSpec.ofChange cardOnlyWrong)

/-- 'ammonitelaw11.CardOrder': WHATEVER THE INPUT: true; the input reads as it did. -/
def cardOrderSpec : ChangeSpec := { name := "cardOrder", fn := fun _ => fun
  | [d1, d2, d3] => { results := [.lit (.bool true)], args := [d1, d2, d3] }
  | _ => none }
def cardOrderRow : OpenClaim := { program := "ytlecpcofgnincaa", sum := "185e7d31cfc455dcd6390540fdc47bdb0949a81f7dfecbbc7adcfe35c709ecfc", func := "ammonite/ammonitelaw11.CardOrder", spec := "cardOrder", inPlace := ["internal/bytealg.IndexByteString", "internal/bytealg.IndexString", "internal/abi.NoEscape", "internal/bytealg.MakeNoZero"], unfollowed := true, recurses := true, named := ["internal/bytealg.MaxLen"], apart := false }
def CardOrderSaid : Prop := cardOrderRow.holds Try.pinned (OpenSpec.ofChange cardOrderSpec)

/-- ITS FALSE NEIGHBOUR: 'it returns false'. Refute it at one input. -/
def cardOrderWrong : ChangeSpec := { name := "cardOrder", fn := fun _ => fun
  | [d1, d2, d3] => { results := [.lit (.bool false)], args := [d1, d2, d3] }
  | _ => none }
def CardOrderWrongFalsely : Prop := cardOrderRow.holds Try.pinned (OpenSpec.ofChange cardOrderWrong)

/-- 'ammonitelaw11.CardAll': WHATEVER THE INPUT: true; the input reads as it did. -/
def cardAllSpec : ChangeSpec := { name := "cardAll", fn := fun _ => fun
  | [d1, d2] => { results := [.lit (.bool true)], args := [d1, d2] }
  | _ => none }
def cardAllRow : OpenClaim := { program := "ytlecpcofgnincaa", sum := "185e7d31cfc455dcd6390540fdc47bdb0949a81f7dfecbbc7adcfe35c709ecfc", func := "ammonite/ammonitelaw11.CardAll", spec := "cardAll", inPlace := ["internal/bytealg.IndexByteString", "internal/bytealg.IndexString", "internal/abi.NoEscape", "internal/bytealg.MakeNoZero"], unfollowed := true, recurses := true, named := ["internal/bytealg.MaxLen"], apart := false }
def CardAllSaid : Prop := cardAllRow.holds Try.pinned (OpenSpec.ofChange cardAllSpec)

/-- ITS FALSE NEIGHBOUR: 'it returns false'. Refute it at one input. -/
def cardAllWrong : ChangeSpec := { name := "cardAll", fn := fun _ => fun
  | [d1, d2] => { results := [.lit (.bool false)], args := [d1, d2] }
  | _ => none }
def CardAllWrongFalsely : Prop := cardAllRow.holds Try.pinned (OpenSpec.ofChange cardAllWrong)

/- THE SECOND FORM. 'bulk': how many values and letters a reading holds, each counted each time it is reached (what is shared counts as often as it is met; a slice's spare places count too). A statement '..UptoSaid' is the law's where the arguments, and the package variables that the reading takes, are together of bulk at most 1048576: NARROWER than '..Said'. Prove '..Said' where nothing that the law and all that it calls make is longer than what came in: it says more and counts as full. Else prove '..UptoSaid'. A law counts once. -/
mutual
def uptoBulk {H : Type} : DataW H → Nat
  | .lit (.string bytes) => bytes.length + 1
  | .lit _ => 1
  | .nil => 1
  | .ptr d => uptoBulk d + 1
  | .slice elems spare => uptoBulkAll elems + uptoBulkAll spare + 1
  | .agg parts => uptoBulkAll parts + 1
  | .iface _ d => uptoBulk d + 1
  | .map entries => uptoBulkEntries entries + 1
  | .held _ => 1
def uptoBulkAll {H : Type} : List (DataW H) → Nat
  | [] => 0
  | d :: r => uptoBulk d + uptoBulkAll r
def uptoBulkEntries {H : Type} : List (Lit × DataW H) → Nat
  | [] => 0
  | x :: r => uptoBulkEntry x + uptoBulkEntries r
def uptoBulkEntry {H : Type} : Lit × DataW H → Nat
  | (.string bytes, d) => bytes.length + uptoBulk d + 1
  | (_, d) => uptoBulk d + 1
 end
def uptoSmall : (H : Type) → List (DataW H) → Bool := fun _ ds => decide (uptoBulkAll ds ≤ 1048576)
def OpenSpec.upto (s : _root_.Go.ChangeSpec) : _root_.Go.OpenSpec := { _root_.Go.OpenSpec.ofChange s with cond := some uptoSmall }

/-- 'ammonitelaw11.CardRuns', WHERE WHAT IT READS IS OF BULK AT MOST 1048576: true; the input reads as it did. -/
def cardRunsUptoRow : OpenClaim := { program := "ytlecpcofgnincaa", sum := "185e7d31cfc455dcd6390540fdc47bdb0949a81f7dfecbbc7adcfe35c709ecfc", func := "ammonite/ammonitelaw11.CardRuns", spec := "cardRuns", inPlace := ["internal/bytealg.IndexByteString", "internal/bytealg.IndexString", "internal/abi.NoEscape", "internal/bytealg.MakeNoZero"], unfollowed := true, recurses := true, named := ["internal/bytealg.MaxLen"], apart := false, narrowed := true }
def CardRunsUptoSaid : Prop := cardRunsUptoRow.holds Try.pinned (OpenSpec.upto cardRunsSpec)

/-- 'ammonitelaw11.CardBack', WHERE WHAT IT READS IS OF BULK AT MOST 1048576: true; the input reads as it did. -/
def cardBackUptoRow : OpenClaim := { program := "ytlecpcofgnincaa", sum := "185e7d31cfc455dcd6390540fdc47bdb0949a81f7dfecbbc7adcfe35c709ecfc", func := "ammonite/ammonitelaw11.CardBack", spec := "cardBack", inPlace := ["internal/bytealg.IndexByteString", "internal/bytealg.IndexString", "internal/abi.NoEscape", "internal/bytealg.MakeNoZero"], unfollowed := true, recurses := true, named := ["internal/bytealg.MaxLen"], apart := false, narrowed := true }
def CardBackUptoSaid : Prop := cardBackUptoRow.holds Try.pinned (OpenSpec.upto cardBackSpec)

/-- 'ammonitelaw11.CardOnly', WHERE WHAT IT READS IS OF BULK AT MOST 1048576: true; the input reads as it did. -/
def cardOnlyUptoRow : OpenClaim := { program := "ytlecpcofgnincaa", sum := "185e7d31cfc455dcd6390540fdc47bdb0949a81f7dfecbbc7adcfe35c709ecfc", func := "ammonite/ammonitelaw11.CardOnly", spec := "cardOnly", inPlace := ["internal/bytealg.IndexByteString", "internal/bytealg.IndexString", "internal/abi.NoEscape", "internal/bytealg.MakeNoZero"], unfollowed := true, recurses := true, named := ["internal/bytealg.MaxLen"], apart := false, narrowed := true }
def CardOnlyUptoSaid : Prop := cardOnlyUptoRow.holds Try.pinned (OpenSpec.upto cardOnlySpec)

/-- 'ammonitelaw11.CardOrder', WHERE WHAT IT READS IS OF BULK AT MOST 1048576: true; the input reads as it did. -/
def cardOrderUptoRow : OpenClaim := { program := "ytlecpcofgnincaa", sum := "185e7d31cfc455dcd6390540fdc47bdb0949a81f7dfecbbc7adcfe35c709ecfc", func := "ammonite/ammonitelaw11.CardOrder", spec := "cardOrder", inPlace := ["internal/bytealg.IndexByteString", "internal/bytealg.IndexString", "internal/abi.NoEscape", "internal/bytealg.MakeNoZero"], unfollowed := true, recurses := true, named := ["internal/bytealg.MaxLen"], apart := false, narrowed := true }
def CardOrderUptoSaid : Prop := cardOrderUptoRow.holds Try.pinned (OpenSpec.upto cardOrderSpec)

/-- 'ammonitelaw11.CardAll', WHERE WHAT IT READS IS OF BULK AT MOST 1048576: true; the input reads as it did. -/
def cardAllUptoRow : OpenClaim := { program := "ytlecpcofgnincaa", sum := "185e7d31cfc455dcd6390540fdc47bdb0949a81f7dfecbbc7adcfe35c709ecfc", func := "ammonite/ammonitelaw11.CardAll", spec := "cardAll", inPlace := ["internal/bytealg.IndexByteString", "internal/bytealg.IndexString", "internal/abi.NoEscape", "internal/bytealg.MakeNoZero"], unfollowed := true, recurses := true, named := ["internal/bytealg.MaxLen"], apart := false, narrowed := true }
def CardAllUptoSaid : Prop := cardAllUptoRow.holds Try.pinned (OpenSpec.upto cardAllSpec)

end Rows
end Go.Proofs.Ytlecpcofgnincaa
