/-
  No cell of these rows narrows 'for every input' (looked for: loops, veiled, ifaces, maps, wideKeys, modest, calm, conditions, laid).
  DERIVED. THE GIVEN ROWS OF THIS SEAT. 9 by the template 'for every input the law returns true; each argument reads behind the call as it read before'; 0 by the template 'total and deterministic' (their statements: YtmbijfcjfhdnjaaTotals.lean).
  GIVEN WITH THE SEED: the statements are not yours to turn. If you find one false, say at which input.
  Laid BY PROGRAM, IN A SANDBOX (cutbox-rows.mjs): the forced cells as the released guide's own fill.sh prints them over the translation 45f5ac6b38fc13c1… (all of the seat's roots in one cut). By AI agents, Wed Nov 11 2026. No macro, syntax, notation, axiom, sorry.
-/
import Derived.Test.YtmbijfcjfhdnjaaChecked
import GoSem.Claim
import GoSem.ClaimJoined
import GoSem.ClaimMapViews
import Derived.JoinedTies
import Derived.KernelRfl
namespace Go.Proofs.Ytmbijfcjfhdnjaa
/- THE CELL 'sum', in the pinned program and in every row, IS THE sha256 OF THE DUMP (.gsa) THAT YtmbijfcjfhdnjaaProg.lean LOADS. Nothing in Lean hashes anything: it is a label: what it is worth is what the hold of that sum in a sandbox is worth. -/
noncomputable def Try.pinned : Pinned := { name := "ytmbijfcjfhdnjaa", sum := "45f5ac6b38fc13c13696354e2f8e7d57a26ae0a49381a97b1cfe702ea468ebe7", checked := Try.checked }
namespace Rows
def none {H : Type} : Left H := { results := [], args := [] }

/-- 'attorneylaw04.TokenPlaces': WHATEVER THE INPUT: true; the input reads as it did. -/
def tokenPlacesSpec : ChangeSpec := { name := "tokenPlaces", fn := fun _ => fun
  | [d] => { results := [.lit (.bool true)], args := [d] }
  | _ => none }
def tokenPlacesRow : OpenClaim := { program := "ytmbijfcjfhdnjaa", sum := "45f5ac6b38fc13c13696354e2f8e7d57a26ae0a49381a97b1cfe702ea468ebe7", func := "attorney/attorneylaw04.TokenPlaces", spec := "tokenPlaces", inPlace := ["internal/bytealg.IndexByteString", "internal/bytealg.IndexString", "internal/abi.NoEscape", "internal/bytealg.MakeNoZero"], unfollowed := true, recurses := true, named := ["internal/bytealg.MaxLen"], apart := false }
def TokenPlacesSaid : Prop := tokenPlacesRow.holds Try.pinned (OpenSpec.ofChange tokenPlacesSpec)

/-- ITS FALSE NEIGHBOUR: 'it returns false'. Refute it at one input. -/
def tokenPlacesWrong : ChangeSpec := { name := "tokenPlaces", fn := fun _ => fun
  | [d] => { results := [.lit (.bool false)], args := [d] }
  | _ => none }
def TokenPlacesWrongFalsely : Prop := tokenPlacesRow.holds Try.pinned (OpenSpec.ofChange tokenPlacesWrong)

/-- 'attorneylaw04.TokenCuts': WHATEVER THE INPUT: true; the input reads as it did. -/
def tokenCutsSpec : ChangeSpec := { name := "tokenCuts", fn := fun _ => fun
  | [d] => { results := [.lit (.bool true)], args := [d] }
  | _ => none }
def tokenCutsRow : OpenClaim := { program := "ytmbijfcjfhdnjaa", sum := "45f5ac6b38fc13c13696354e2f8e7d57a26ae0a49381a97b1cfe702ea468ebe7", func := "attorney/attorneylaw04.TokenCuts", spec := "tokenCuts", inPlace := ["internal/bytealg.IndexByteString", "internal/bytealg.IndexString", "internal/abi.NoEscape", "internal/bytealg.MakeNoZero"], unfollowed := true, recurses := true, named := ["internal/bytealg.MaxLen"], apart := false }
def TokenCutsSaid : Prop := tokenCutsRow.holds Try.pinned (OpenSpec.ofChange tokenCutsSpec)

/-- ITS FALSE NEIGHBOUR: 'it returns false'. Refute it at one input. -/
def tokenCutsWrong : ChangeSpec := { name := "tokenCuts", fn := fun _ => fun
  | [d] => { results := [.lit (.bool false)], args := [d] }
  | _ => none }
def TokenCutsWrongFalsely : Prop := tokenCutsRow.holds Try.pinned (OpenSpec.ofChange tokenCutsWrong)

/-- 'attorneylaw05.ExprParses': WHATEVER THE INPUT: true; the input reads as it did. -/
def exprParsesSpec : ChangeSpec := { name := "exprParses", fn := fun _ => fun
  | [d] => { results := [.lit (.bool true)], args := [d] }
  | _ => none }
def exprParsesRow : OpenClaim := { program := "ytmbijfcjfhdnjaa", sum := "45f5ac6b38fc13c13696354e2f8e7d57a26ae0a49381a97b1cfe702ea468ebe7", func := "attorney/attorneylaw05.ExprParses", spec := "exprParses", inPlace := ["internal/bytealg.IndexByteString", "internal/bytealg.IndexString", "internal/abi.NoEscape", "internal/bytealg.MakeNoZero"], unfollowed := true, recurses := true, named := ["internal/bytealg.MaxLen"], apart := false }
def ExprParsesSaid : Prop := exprParsesRow.holds Try.pinned (OpenSpec.ofChange exprParsesSpec)

/-- ITS FALSE NEIGHBOUR: 'it returns false'. Refute it at one input. -/
def exprParsesWrong : ChangeSpec := { name := "exprParses", fn := fun _ => fun
  | [d] => { results := [.lit (.bool false)], args := [d] }
  | _ => none }
def ExprParsesWrongFalsely : Prop := exprParsesRow.holds Try.pinned (OpenSpec.ofChange exprParsesWrong)

/-- 'attorneylaw05.ExprReads': WHATEVER THE INPUT: true; the input reads as it did. -/
def exprReadsSpec : ChangeSpec := { name := "exprReads", fn := fun _ => fun
  | [d] => { results := [.lit (.bool true)], args := [d] }
  | _ => none }
def exprReadsRow : OpenClaim := { program := "ytmbijfcjfhdnjaa", sum := "45f5ac6b38fc13c13696354e2f8e7d57a26ae0a49381a97b1cfe702ea468ebe7", func := "attorney/attorneylaw05.ExprReads", spec := "exprReads", inPlace := ["internal/bytealg.IndexByteString", "internal/bytealg.IndexString", "internal/abi.NoEscape", "internal/bytealg.MakeNoZero"], unfollowed := true, recurses := true, named := ["internal/bytealg.MaxLen"], apart := false }
def ExprReadsSaid : Prop := exprReadsRow.holds Try.pinned (OpenSpec.ofChange exprReadsSpec)

/-- ITS FALSE NEIGHBOUR: 'it returns false'. Refute it at one input. -/
def exprReadsWrong : ChangeSpec := { name := "exprReads", fn := fun _ => fun
  | [d] => { results := [.lit (.bool false)], args := [d] }
  | _ => none }
def ExprReadsWrongFalsely : Prop := exprReadsRow.holds Try.pinned (OpenSpec.ofChange exprReadsWrong)

/-- 'attorneylaw05.ExprWrites': WHATEVER THE INPUT: true; the input reads as it did. -/
def exprWritesSpec : ChangeSpec := { name := "exprWrites", fn := fun _ => fun
  | [d] => { results := [.lit (.bool true)], args := [d] }
  | _ => none }
def exprWritesRow : OpenClaim := { program := "ytmbijfcjfhdnjaa", sum := "45f5ac6b38fc13c13696354e2f8e7d57a26ae0a49381a97b1cfe702ea468ebe7", func := "attorney/attorneylaw05.ExprWrites", spec := "exprWrites", inPlace := ["internal/bytealg.IndexByteString", "internal/bytealg.IndexString", "internal/abi.NoEscape", "internal/bytealg.MakeNoZero"], unfollowed := true, recurses := true, named := ["internal/bytealg.MaxLen"], apart := false }
def ExprWritesSaid : Prop := exprWritesRow.holds Try.pinned (OpenSpec.ofChange exprWritesSpec)

/-- ITS FALSE NEIGHBOUR: 'it returns false'. Refute it at one input. -/
def exprWritesWrong : ChangeSpec := { name := "exprWrites", fn := fun _ => fun
  | [d] => { results := [.lit (.bool false)], args := [d] }
  | _ => none }
def ExprWritesWrongFalsely : Prop := exprWritesRow.holds Try.pinned (OpenSpec.ofChange exprWritesWrong)

/-- 'attorneylaw05.ExprBack': WHATEVER THE INPUT: true; the input reads as it did. -/
def exprBackSpec : ChangeSpec := { name := "exprBack", fn := fun _ => fun
  | [d1, d2] => { results := [.lit (.bool true)], args := [d1, d2] }
  | _ => none }
def exprBackRow : OpenClaim := { program := "ytmbijfcjfhdnjaa", sum := "45f5ac6b38fc13c13696354e2f8e7d57a26ae0a49381a97b1cfe702ea468ebe7", func := "attorney/attorneylaw05.ExprBack", spec := "exprBack", inPlace := ["internal/bytealg.IndexByteString", "internal/bytealg.IndexString", "internal/abi.NoEscape", "internal/bytealg.MakeNoZero"], unfollowed := true, recurses := true, named := ["internal/bytealg.MaxLen"], apart := false }
def ExprBackSaid : Prop := exprBackRow.holds Try.pinned (OpenSpec.ofChange exprBackSpec)

/-- ITS FALSE NEIGHBOUR: 'it returns false'. Refute it at one input. -/
def exprBackWrong : ChangeSpec := { name := "exprBack", fn := fun _ => fun
  | [d1, d2] => { results := [.lit (.bool false)], args := [d1, d2] }
  | _ => none }
def ExprBackWrongFalsely : Prop := exprBackRow.holds Try.pinned (OpenSpec.ofChange exprBackWrong)

/-- 'attorneylaw05.ExprFew': WHATEVER THE INPUT: true; the input reads as it did. -/
def exprFewSpec : ChangeSpec := { name := "exprFew", fn := fun _ => fun
  | [d] => { results := [.lit (.bool true)], args := [d] }
  | _ => none }
def exprFewRow : OpenClaim := { program := "ytmbijfcjfhdnjaa", sum := "45f5ac6b38fc13c13696354e2f8e7d57a26ae0a49381a97b1cfe702ea468ebe7", func := "attorney/attorneylaw05.ExprFew", spec := "exprFew", inPlace := ["internal/bytealg.IndexByteString", "internal/bytealg.IndexString", "internal/abi.NoEscape", "internal/bytealg.MakeNoZero"], unfollowed := true, recurses := true, named := ["internal/bytealg.MaxLen"], apart := false }
def ExprFewSaid : Prop := exprFewRow.holds Try.pinned (OpenSpec.ofChange exprFewSpec)

/-- ITS FALSE NEIGHBOUR: 'it returns false'. Refute it at one input. -/
def exprFewWrong : ChangeSpec := { name := "exprFew", fn := fun _ => fun
  | [d] => { results := [.lit (.bool false)], args := [d] }
  | _ => none }
def ExprFewWrongFalsely : Prop := exprFewRow.holds Try.pinned (OpenSpec.ofChange exprFewWrong)

/-- 'attorneylaw05.ExprJoins': WHATEVER THE INPUT: true; the input reads as it did. -/
def exprJoinsSpec : ChangeSpec := { name := "exprJoins", fn := fun _ => fun
  | [d1, d2, d3] => { results := [.lit (.bool true)], args := [d1, d2, d3] }
  | _ => none }
def exprJoinsRow : OpenClaim := { program := "ytmbijfcjfhdnjaa", sum := "45f5ac6b38fc13c13696354e2f8e7d57a26ae0a49381a97b1cfe702ea468ebe7", func := "attorney/attorneylaw05.ExprJoins", spec := "exprJoins", inPlace := ["internal/bytealg.IndexByteString", "internal/bytealg.IndexString", "internal/abi.NoEscape", "internal/bytealg.MakeNoZero"], unfollowed := true, recurses := true, named := ["internal/bytealg.MaxLen"], apart := false }
def ExprJoinsSaid : Prop := exprJoinsRow.holds Try.pinned (OpenSpec.ofChange exprJoinsSpec)

/-- ITS FALSE NEIGHBOUR: 'it returns false'. Refute it at one input. -/
def exprJoinsWrong : ChangeSpec := { name := "exprJoins", fn := fun _ => fun
  | [d1, d2, d3] => { results := [.lit (.bool false)], args := [d1, d2, d3] }
  | _ => none }
def ExprJoinsWrongFalsely : Prop := exprJoinsRow.holds Try.pinned (OpenSpec.ofChange exprJoinsWrong)

/-- 'attorneylaw05.ExprOpen': WHATEVER THE INPUT: true; the input reads as it did. -/
def exprOpenSpec : ChangeSpec := { name := "exprOpen", fn := fun _ => fun
  | [d] => { results := [.lit (.bool true)], args := [d] }
  | _ => none }
def exprOpenRow : OpenClaim := { program := "ytmbijfcjfhdnjaa", sum := "45f5ac6b38fc13c13696354e2f8e7d57a26ae0a49381a97b1cfe702ea468ebe7", func := "attorney/attorneylaw05.ExprOpen", spec := "exprOpen", inPlace := ["internal/bytealg.IndexByteString", "internal/bytealg.IndexString", "internal/abi.NoEscape", "internal/bytealg.MakeNoZero"], unfollowed := true, recurses := true, named := ["internal/bytealg.MaxLen"], apart := false }
def ExprOpenSaid : Prop := exprOpenRow.holds Try.pinned (OpenSpec.ofChange exprOpenSpec)

/-- ITS FALSE NEIGHBOUR: 'it returns false'. Refute it at one input. -/
def exprOpenWrong : ChangeSpec := { name := "exprOpen", fn := fun _ => fun
  | [d] => { results := [.lit (.bool false)], args := [d] }
  | _ => none }
def ExprOpenWrongFalsely : Prop := exprOpenRow.holds Try.pinned (OpenSpec.ofChange exprOpenWrong)

/- THE SECOND FORM. 'bulk': how many values and letters a reading holds, each counted each time it is reached (what is shared counts as often as it is met; a slice's spare places count too). A statement '..UptoSaid' is the law's where the arguments, and the package variables that the reading takes, are together of bulk at most 1048576: NARROWER than '..Said'. Prove '..Said' where nothing that the law and all that it calls make is longer than what came in: it says more and counts as full. Else prove '..UptoSaid'. A law counts once. -/
mutual
def uptoBulk {H : Type} : DataW H → Nat
  | .lit (.string bytes) => bytes.length + 1
  | .lit _ => 1
  | .nil => 1
  | .ptr d => uptoBulk d + 1
  | .slice elems spare => uptoBulkAll elems + uptoBulkAll spare + 1
  | .agg parts => uptoBulkAll parts + 1
  | .iface _ d => uptoBulk d + 1
  | .map entries => uptoBulkEntries entries + 1
  | .held _ => 1
def uptoBulkAll {H : Type} : List (DataW H) → Nat
  | [] => 0
  | d :: r => uptoBulk d + uptoBulkAll r
def uptoBulkEntries {H : Type} : List (Lit × DataW H) → Nat
  | [] => 0
  | x :: r => uptoBulkEntry x + uptoBulkEntries r
def uptoBulkEntry {H : Type} : Lit × DataW H → Nat
  | (.string bytes, d) => bytes.length + uptoBulk d + 1
  | (_, d) => uptoBulk d + 1
 end
def uptoSmall : (H : Type) → List (DataW H) → Bool := fun _ ds => decide (uptoBulkAll ds ≤ 1048576)
def OpenSpec.upto (s : _root_.Go.ChangeSpec) : _root_.Go.OpenSpec := { _root_.Go.OpenSpec.ofChange s with cond := some uptoSmall }

/-- 'attorneylaw04.TokenPlaces', WHERE WHAT IT READS IS OF BULK AT MOST 1048576: true; the input reads as it did. -/
def tokenPlacesUptoRow : OpenClaim := { program := "ytmbijfcjfhdnjaa", sum := "45f5ac6b38fc13c13696354e2f8e7d57a26ae0a49381a97b1cfe702ea468ebe7", func := "attorney/attorneylaw04.TokenPlaces", spec := "tokenPlaces", inPlace := ["internal/bytealg.IndexByteString", "internal/bytealg.IndexString", "internal/abi.NoEscape", "internal/bytealg.MakeNoZero"], unfollowed := true, recurses := true, named := ["internal/bytealg.MaxLen"], apart := false, narrowed := true }
def TokenPlacesUptoSaid : Prop := tokenPlacesUptoRow.holds Try.pinned (OpenSpec.upto tokenPlacesSpec)

/-- 'attorneylaw04.TokenCuts', WHERE WHAT IT READS IS OF BULK AT MOST 1048576: true; the input reads as it did. -/
def tokenCutsUptoRow : OpenClaim := { program := "ytmbijfcjfhdnjaa", sum := "45f5ac6b38fc13c13696354e2f8e7d57a26ae0a49381a97b1cfe702ea468ebe7", func := "attorney/attorneylaw04.TokenCuts", spec := "tokenCuts", inPlace := ["internal/bytealg.IndexByteString", "internal/bytealg.IndexString", "internal/abi.NoEscape", "internal/bytealg.MakeNoZero"], unfollowed := true, recurses := true, named := ["internal/bytealg.MaxLen"], apart := false, narrowed := true }
def TokenCutsUptoSaid : Prop := tokenCutsUptoRow.holds Try.pinned (OpenSpec.upto tokenCutsSpec)

/-- 'attorneylaw05.ExprParses', WHERE WHAT IT READS IS OF BULK AT MOST 1048576: true; the input reads as it did. -/
def exprParsesUptoRow : OpenClaim := { program := "ytmbijfcjfhdnjaa", sum := "45f5ac6b38fc13c13696354e2f8e7d57a26ae0a49381a97b1cfe702ea468ebe7", func := "attorney/attorneylaw05.ExprParses", spec := "exprParses", inPlace := ["internal/bytealg.IndexByteString", "internal/bytealg.IndexString", "internal/abi.NoEscape", "internal/bytealg.MakeNoZero"], unfollowed := true, recurses := true, named := ["internal/bytealg.MaxLen"], apart := false, narrowed := true }
def ExprParsesUptoSaid : Prop := exprParsesUptoRow.holds Try.pinned (OpenSpec.upto exprParsesSpec)

/-- 'attorneylaw05.ExprReads', WHERE WHAT IT READS IS OF BULK AT MOST 1048576: true; the input reads as it did. -/
def exprReadsUptoRow : OpenClaim := { program := "ytmbijfcjfhdnjaa", sum := "45f5ac6b38fc13c13696354e2f8e7d57a26ae0a49381a97b1cfe702ea468ebe7", func := "attorney/attorneylaw05.ExprReads", spec := "exprReads", inPlace := ["internal/bytealg.IndexByteString", "internal/bytealg.IndexString", "internal/abi.NoEscape", "internal/bytealg.MakeNoZero"], unfollowed := true, recurses := true, named := ["internal/bytealg.MaxLen"], apart := false, narrowed := true }
def ExprReadsUptoSaid : Prop := exprReadsUptoRow.holds Try.pinned (OpenSpec.upto exprReadsSpec)

/-- 'attorneylaw05.ExprWrites', WHERE WHAT IT READS IS OF BULK AT MOST 1048576: true; the input reads as it did. -/
def exprWritesUptoRow : OpenClaim := { program := "ytmbijfcjfhdnjaa", sum := "45f5ac6b38fc13c13696354e2f8e7d57a26ae0a49381a97b1cfe702ea468ebe7", func := "attorney/attorneylaw05.ExprWrites", spec := "exprWrites", inPlace := ["internal/bytealg.IndexByteString", "internal/bytealg.IndexString", "internal/abi.NoEscape", "internal/bytealg.MakeNoZero"], unfollowed := true, recurses := true, named := ["internal/bytealg.MaxLen"], apart := false, narrowed := true }
def ExprWritesUptoSaid : Prop := exprWritesUptoRow.holds Try.pinned (OpenSpec.upto exprWritesSpec)

/-- 'attorneylaw05.ExprBack', WHERE WHAT IT READS IS OF BULK AT MOST 1048576: true; the input reads as it did. -/
def exprBackUptoRow : OpenClaim := { program := "ytmbijfcjfhdnjaa", sum := "45f5ac6b38fc13c13696354e2f8e7d57a26ae0a49381a97b1cfe702ea468ebe7", func := "attorney/attorneylaw05.ExprBack", spec := "exprBack", inPlace := ["internal/bytealg.IndexByteString", "internal/bytealg.IndexString", "internal/abi.NoEscape", "internal/bytealg.MakeNoZero"], unfollowed := true, recurses := true, named := ["internal/bytealg.MaxLen"], apart := false, narrowed := true }
def ExprBackUptoSaid : Prop := exprBackUptoRow.holds Try.pinned (OpenSpec.upto exprBackSpec)

/-- 'attorneylaw05.ExprFew', WHERE WHAT IT READS IS OF BULK AT MOST 1048576: true; the input reads as it did. -/
def exprFewUptoRow : OpenClaim := { program := "ytmbijfcjfhdnjaa", sum := "45f5ac6b38fc13c13696354e2f8e7d57a26ae0a49381a97b1cfe702ea468ebe7", func := "attorney/attorneylaw05.ExprFew", spec := "exprFew", inPlace := ["internal/bytealg.IndexByteString", "internal/bytealg.IndexString", "internal/abi.NoEscape", "internal/bytealg.MakeNoZero"], unfollowed := true, recurses := true, named := ["internal/bytealg.MaxLen"], apart := false, narrowed := true }
def ExprFewUptoSaid : Prop := exprFewUptoRow.holds Try.pinned (OpenSpec.upto exprFewSpec)

/-- 'attorneylaw05.ExprJoins', WHERE WHAT IT READS IS OF BULK AT MOST 1048576: true; the input reads as it did. -/
def exprJoinsUptoRow : OpenClaim := { program := "ytmbijfcjfhdnjaa", sum := "45f5ac6b38fc13c13696354e2f8e7d57a26ae0a49381a97b1cfe702ea468ebe7", func := "attorney/attorneylaw05.ExprJoins", spec := "exprJoins", inPlace := ["internal/bytealg.IndexByteString", "internal/bytealg.IndexString", "internal/abi.NoEscape", "internal/bytealg.MakeNoZero"], unfollowed := true, recurses := true, named := ["internal/bytealg.MaxLen"], apart := false, narrowed := true }
def ExprJoinsUptoSaid : Prop := exprJoinsUptoRow.holds Try.pinned (OpenSpec.upto exprJoinsSpec)

/-- 'attorneylaw05.ExprOpen', WHERE WHAT IT READS IS OF BULK AT MOST 1048576: true; the input reads as it did. -/
def exprOpenUptoRow : OpenClaim := { program := "ytmbijfcjfhdnjaa", sum := "45f5ac6b38fc13c13696354e2f8e7d57a26ae0a49381a97b1cfe702ea468ebe7", func := "attorney/attorneylaw05.ExprOpen", spec := "exprOpen", inPlace := ["internal/bytealg.IndexByteString", "internal/bytealg.IndexString", "internal/abi.NoEscape", "internal/bytealg.MakeNoZero"], unfollowed := true, recurses := true, named := ["internal/bytealg.MaxLen"], apart := false, narrowed := true }
def ExprOpenUptoSaid : Prop := exprOpenUptoRow.holds Try.pinned (OpenSpec.upto exprOpenSpec)

end Rows
end Go.Proofs.Ytmbijfcjfhdnjaa
