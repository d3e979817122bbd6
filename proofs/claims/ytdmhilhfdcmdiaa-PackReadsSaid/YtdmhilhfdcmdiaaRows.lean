/-
  No cell of these rows narrows 'for every input' (looked for: loops, veiled, ifaces, maps, wideKeys, modest, calm, conditions, laid).
  DERIVED. THE GIVEN ROWS OF THIS SEAT. 10 by the template 'for every input the law returns true; each argument reads behind the call as it read before'; 0 by the template 'total and deterministic' (their statements: YtdmhilhfdcmdiaaTotals.lean).
  GIVEN WITH THE SEED: the statements are not yours to turn. If you find one false, say at which input.
  Laid BY PROGRAM, IN A SANDBOX (cutbox-rows.mjs): the forced cells as the released guide's own fill.sh prints them over the translation b9574be1616d1736… (all of the seat's roots in one cut). By AI agents, Wed Nov 11 2026. No macro, syntax, notation, axiom, sorry.
-/
import Derived.Test.YtdmhilhfdcmdiaaChecked
import GoSem.Claim
import GoSem.ClaimJoined
import GoSem.ClaimMapViews
import Derived.JoinedTies
import Derived.KernelRfl
namespace Go.Proofs.Ytdmhilhfdcmdiaa
/- THE CELL 'sum', in the pinned program and in every row, IS THE sha256 OF THE DUMP (.gsa) THAT YtdmhilhfdcmdiaaProg.lean LOADS. Nothing in Lean hashes anything: it is a label: what it is worth is what the hold of that sum in a sandbox is worth. -/
noncomputable def Try.pinned : Pinned := { name := "ytdmhilhfdcmdiaa", sum := "b9574be1616d1736abf16293fa393a0987b94068bec5fa53db5313b0ef586766", checked := Try.checked }
namespace Rows
def none {H : Type} : Left H := { results := [], args := [] }

/-- 'attorneylaw07.PackWrites': WHATEVER THE INPUT: true; the input reads as it did. -/
def packWritesSpec : ChangeSpec := { name := "packWrites", fn := fun _ => fun
  | [d] => { results := [.lit (.bool true)], args := [d] }
  | _ => none }
def packWritesRow : OpenClaim := { program := "ytdmhilhfdcmdiaa", sum := "b9574be1616d1736abf16293fa393a0987b94068bec5fa53db5313b0ef586766", func := "attorney/attorneylaw07.PackWrites", spec := "packWrites", apart := false }
def PackWritesSaid : Prop := packWritesRow.holds Try.pinned (OpenSpec.ofChange packWritesSpec)

/-- ITS FALSE NEIGHBOUR: 'it returns false'. Refute it at one input. -/
def packWritesWrong : ChangeSpec := { name := "packWrites", fn := fun _ => fun
  | [d] => { results := [.lit (.bool false)], args := [d] }
  | _ => none }
def PackWritesWrongFalsely : Prop := packWritesRow.holds Try.pinned (OpenSpec.ofChange packWritesWrong)

/-- 'attorneylaw07.PackReads': WHATEVER THE INPUT: true; the input reads as it did. -/
def packReadsSpec : ChangeSpec := { name := "packReads", fn := fun _ => fun
  | [d1, d2] => { results := [.lit (.bool true)], args := [d1, d2] }
  | _ => none }
def packReadsRow : OpenClaim := { program := "ytdmhilhfdcmdiaa", sum := "b9574be1616d1736abf16293fa393a0987b94068bec5fa53db5313b0ef586766", func := "attorney/attorneylaw07.PackReads", spec := "packReads", apart := false }
def PackReadsSaid : Prop := packReadsRow.holds Try.pinned (OpenSpec.ofChange packReadsSpec)

/-- ITS FALSE NEIGHBOUR: 'it returns false'. Refute it at one input. -/
def packReadsWrong : ChangeSpec := { name := "packReads", fn := fun _ => fun
  | [d1, d2] => { results := [.lit (.bool false)], args := [d1, d2] }
  | _ => none }
def PackReadsWrongFalsely : Prop := packReadsRow.holds Try.pinned (OpenSpec.ofChange packReadsWrong)

/-- 'attorneylaw07.PackBack': WHATEVER THE INPUT: true; the input reads as it did. -/
def packBackSpec : ChangeSpec := { name := "packBack", fn := fun _ => fun
  | [d] => { results := [.lit (.bool true)], args := [d] }
  | _ => none }
def packBackRow : OpenClaim := { program := "ytdmhilhfdcmdiaa", sum := "b9574be1616d1736abf16293fa393a0987b94068bec5fa53db5313b0ef586766", func := "attorney/attorneylaw07.PackBack", spec := "packBack", apart := false }
def PackBackSaid : Prop := packBackRow.holds Try.pinned (OpenSpec.ofChange packBackSpec)

/-- ITS FALSE NEIGHBOUR: 'it returns false'. Refute it at one input. -/
def packBackWrong : ChangeSpec := { name := "packBack", fn := fun _ => fun
  | [d] => { results := [.lit (.bool false)], args := [d] }
  | _ => none }
def PackBackWrongFalsely : Prop := packBackRow.holds Try.pinned (OpenSpec.ofChange packBackWrong)

/-- 'attorneylaw07.PackOne': WHATEVER THE INPUT: true; the input reads as it did. -/
def packOneSpec : ChangeSpec := { name := "packOne", fn := fun _ => fun
  | [d1, d2] => { results := [.lit (.bool true)], args := [d1, d2] }
  | _ => none }
def packOneRow : OpenClaim := { program := "ytdmhilhfdcmdiaa", sum := "b9574be1616d1736abf16293fa393a0987b94068bec5fa53db5313b0ef586766", func := "attorney/attorneylaw07.PackOne", spec := "packOne", apart := false }
def PackOneSaid : Prop := packOneRow.holds Try.pinned (OpenSpec.ofChange packOneSpec)

/-- ITS FALSE NEIGHBOUR: 'it returns false'. Refute it at one input. -/
def packOneWrong : ChangeSpec := { name := "packOne", fn := fun _ => fun
  | [d1, d2] => { results := [.lit (.bool false)], args := [d1, d2] }
  | _ => none }
def PackOneWrongFalsely : Prop := packOneRow.holds Try.pinned (OpenSpec.ofChange packOneWrong)

/-- 'attorneylaw07.PackStops': WHATEVER THE INPUT: true; the input reads as it did. -/
def packStopsSpec : ChangeSpec := { name := "packStops", fn := fun _ => fun
  | [d1, d2] => { results := [.lit (.bool true)], args := [d1, d2] }
  | _ => none }
def packStopsRow : OpenClaim := { program := "ytdmhilhfdcmdiaa", sum := "b9574be1616d1736abf16293fa393a0987b94068bec5fa53db5313b0ef586766", func := "attorney/attorneylaw07.PackStops", spec := "packStops", apart := false }
def PackStopsSaid : Prop := packStopsRow.holds Try.pinned (OpenSpec.ofChange packStopsSpec)

/-- ITS FALSE NEIGHBOUR: 'it returns false'. Refute it at one input. -/
def packStopsWrong : ChangeSpec := { name := "packStops", fn := fun _ => fun
  | [d1, d2] => { results := [.lit (.bool false)], args := [d1, d2] }
  | _ => none }
def PackStopsWrongFalsely : Prop := packStopsRow.holds Try.pinned (OpenSpec.ofChange packStopsWrong)

/-- 'attorneylaw21.RecordDoes': WHATEVER THE INPUT: true; the input reads as it did. -/
def recordDoesSpec : ChangeSpec := { name := "recordDoes", fn := fun _ => fun
  | [d1, d2] => { results := [.lit (.bool true)], args := [d1, d2] }
  | _ => none }
def recordDoesRow : OpenClaim := { program := "ytdmhilhfdcmdiaa", sum := "b9574be1616d1736abf16293fa393a0987b94068bec5fa53db5313b0ef586766", func := "attorney/attorneylaw21.RecordDoes", spec := "recordDoes", unfollowed := true, recurses := true, apart := false }
def RecordDoesSaid : Prop := recordDoesRow.holds Try.pinned (OpenSpec.ofChange recordDoesSpec)

/-- ITS FALSE NEIGHBOUR: 'it returns false'. Refute it at one input. -/
def recordDoesWrong : ChangeSpec := { name := "recordDoes", fn := fun _ => fun
  | [d1, d2] => { results := [.lit (.bool false)], args := [d1, d2] }
  | _ => none }
def RecordDoesWrongFalsely : Prop := recordDoesRow.holds Try.pinned (OpenSpec.ofChange recordDoesWrong)

/-- 'attorneylaw21.RecordBytes': WHATEVER THE INPUT: true; the input reads as it did. -/
def recordBytesSpec : ChangeSpec := { name := "recordBytes", fn := fun _ => fun
  | [d1, d2] => { results := [.lit (.bool true)], args := [d1, d2] }
  | _ => none }
def recordBytesRow : OpenClaim := { program := "ytdmhilhfdcmdiaa", sum := "b9574be1616d1736abf16293fa393a0987b94068bec5fa53db5313b0ef586766", func := "attorney/attorneylaw21.RecordBytes", spec := "recordBytes", unfollowed := true, recurses := true, apart := false }
def RecordBytesSaid : Prop := recordBytesRow.holds Try.pinned (OpenSpec.ofChange recordBytesSpec)

/-- ITS FALSE NEIGHBOUR: 'it returns false'. Refute it at one input. -/
def recordBytesWrong : ChangeSpec := { name := "recordBytes", fn := fun _ => fun
  | [d1, d2] => { results := [.lit (.bool false)], args := [d1, d2] }
  | _ => none }
def RecordBytesWrongFalsely : Prop := recordBytesRow.holds Try.pinned (OpenSpec.ofChange recordBytesWrong)

/-- 'attorneylaw21.RecordBack': WHATEVER THE INPUT: true; the input reads as it did. -/
def recordBackSpec : ChangeSpec := { name := "recordBack", fn := fun _ => fun
  | [d1, d2] => { results := [.lit (.bool true)], args := [d1, d2] }
  | _ => none }
def recordBackRow : OpenClaim := { program := "ytdmhilhfdcmdiaa", sum := "b9574be1616d1736abf16293fa393a0987b94068bec5fa53db5313b0ef586766", func := "attorney/attorneylaw21.RecordBack", spec := "recordBack", unfollowed := true, recurses := true, apart := false }
def RecordBackSaid : Prop := recordBackRow.holds Try.pinned (OpenSpec.ofChange recordBackSpec)

/-- ITS FALSE NEIGHBOUR: 'it returns false'. Refute it at one input. -/
def recordBackWrong : ChangeSpec := { name := "recordBack", fn := fun _ => fun
  | [d1, d2] => { results := [.lit (.bool false)], args := [d1, d2] }
  | _ => none }
def RecordBackWrongFalsely : Prop := recordBackRow.holds Try.pinned (OpenSpec.ofChange recordBackWrong)

/-- 'attorneylaw21.RecordLeaves': WHATEVER THE INPUT: true; the input reads as it did. -/
def recordLeavesSpec : ChangeSpec := { name := "recordLeaves", fn := fun _ => fun
  | [d1, d2] => { results := [.lit (.bool true)], args := [d1, d2] }
  | _ => none }
def recordLeavesRow : OpenClaim := { program := "ytdmhilhfdcmdiaa", sum := "b9574be1616d1736abf16293fa393a0987b94068bec5fa53db5313b0ef586766", func := "attorney/attorneylaw21.RecordLeaves", spec := "recordLeaves", unfollowed := true, recurses := true, apart := false }
def RecordLeavesSaid : Prop := recordLeavesRow.holds Try.pinned (OpenSpec.ofChange recordLeavesSpec)

/-- ITS FALSE NEIGHBOUR: 'it returns false'. Refute it at one input. -/
def recordLeavesWrong : ChangeSpec := { name := "recordLeaves", fn := fun _ => fun
  | [d1, d2] => { results := [.lit (.bool false)], args := [d1, d2] }
  | _ => none }
def RecordLeavesWrongFalsely : Prop := recordLeavesRow.holds Try.pinned (OpenSpec.ofChange recordLeavesWrong)

/-- 'attorneylaw21.RecordTurns': WHATEVER THE INPUT: true; the input reads as it did. -/
def recordTurnsSpec : ChangeSpec := { name := "recordTurns", fn := fun _ => fun
  | [d1, d2, d3] => { results := [.lit (.bool true)], args := [d1, d2, d3] }
  | _ => none }
def recordTurnsRow : OpenClaim := { program := "ytdmhilhfdcmdiaa", sum := "b9574be1616d1736abf16293fa393a0987b94068bec5fa53db5313b0ef586766", func := "attorney/attorneylaw21.RecordTurns", spec := "recordTurns", unfollowed := true, recurses := true, apart := false }
def RecordTurnsSaid : Prop := recordTurnsRow.holds Try.pinned (OpenSpec.ofChange recordTurnsSpec)

/-- ITS FALSE NEIGHBOUR: 'it returns false'. Refute it at one input. -/
def recordTurnsWrong : ChangeSpec := { name := "recordTurns", fn := fun _ => fun
  | [d1, d2, d3] => { results := [.lit (.bool false)], args := [d1, d2, d3] }
  | _ => none }
def RecordTurnsWrongFalsely : Prop := recordTurnsRow.holds Try.pinned (OpenSpec.ofChange recordTurnsWrong)

/- THE SECOND FORM. 'bulk': how many values and letters a reading holds, each counted each time it is reached (what is shared counts as often as it is met; a slice's spare places count too). A statement '..UptoSaid' is the law's where the arguments, and the package variables that the reading takes, are together of bulk at most 1048576: NARROWER than '..Said'. Prove '..Said' where nothing that the law and all that it calls make is longer than what came in: it says more and counts as full. Else prove '..UptoSaid'. A law counts once. -/
mutual
def uptoBulk {H : Type} : DataW H → Nat
  | .lit (.string bytes) => bytes.length + 1
  | .lit _ => 1
  | .nil => 1
  | .ptr d => uptoBulk d + 1
  | .slice elems spare => uptoBulkAll elems + uptoBulkAll spare + 1
  | .agg parts => uptoBulkAll parts + 1
  | .iface _ d => uptoBulk d + 1
  | .map entries => uptoBulkEntries entries + 1
  | .held _ => 1
def uptoBulkAll {H : Type} : List (DataW H) → Nat
  | [] => 0
  | d :: r => uptoBulk d + uptoBulkAll r
def uptoBulkEntries {H : Type} : List (Lit × DataW H) → Nat
  | [] => 0
  | x :: r => uptoBulkEntry x + uptoBulkEntries r
def uptoBulkEntry {H : Type} : Lit × DataW H → Nat
  | (.string bytes, d) => bytes.length + uptoBulk d + 1
  | (_, d) => uptoBulk d + 1
 end
def uptoSmall : (H : Type) → List (DataW H) → Bool := fun _ ds => decide (uptoBulkAll ds ≤ 1048576)
def OpenSpec.upto (s : _root_.Go.ChangeSpec) : _root_.Go.OpenSpec := { _root_.Go.OpenSpec.ofChange s with cond := some uptoSmall }

/-- 'attorneylaw07.PackWrites', WHERE WHAT IT READS IS OF BULK AT MOST 1048576: true; the input reads as it did. -/
def packWritesUptoRow : OpenClaim := { program := "ytdmhilhfdcmdiaa", sum := "b9574be1616d1736abf16293fa393a0987b94068bec5fa53db5313b0ef586766", func := "attorney/attorneylaw07.PackWrites", spec := "packWrites", apart := false, narrowed := true }
def PackWritesUptoSaid : Prop := packWritesUptoRow.holds Try.pinned (OpenSpec.upto packWritesSpec)

/-- 'attorneylaw07.PackReads', WHERE WHAT IT READS IS OF BULK AT MOST 1048576: true; the input reads as it did. -/
def packReadsUptoRow : OpenClaim := { program := "ytdmhilhfdcmdiaa", sum := "b9574be1616d1736abf16293fa393a0987b94068bec5fa53db5313b0ef586766", func := "attorney/attorneylaw07.PackReads", spec := "packReads", apart := false, narrowed := true }
def PackReadsUptoSaid : Prop := packReadsUptoRow.holds Try.pinned (OpenSpec.upto packReadsSpec)

/-- 'attorneylaw07.PackBack', WHERE WHAT IT READS IS OF BULK AT MOST 1048576: true; the input reads as it did. -/
def packBackUptoRow : OpenClaim := { program := "ytdmhilhfdcmdiaa", sum := "b9574be1616d1736abf16293fa393a0987b94068bec5fa53db5313b0ef586766", func := "attorney/attorneylaw07.PackBack", spec := "packBack", apart := false, narrowed := true }
def PackBackUptoSaid : Prop := packBackUptoRow.holds Try.pinned (OpenSpec.upto packBackSpec)

/-- 'attorneylaw07.PackOne', WHERE WHAT IT READS IS OF BULK AT MOST 1048576: true; the input reads as it did. -/
def packOneUptoRow : OpenClaim := { program := "ytdmhilhfdcmdiaa", sum := "b9574be1616d1736abf16293fa393a0987b94068bec5fa53db5313b0ef586766", func := "attorney/attorneylaw07.PackOne", spec := "packOne", apart := false, narrowed := true }
def PackOneUptoSaid : Prop := packOneUptoRow.holds Try.pinned (OpenSpec.upto packOneSpec)

/-- 'attorneylaw07.PackStops', WHERE WHAT IT READS IS OF BULK AT MOST 1048576: true; the input reads as it did. -/
def packStopsUptoRow : OpenClaim := { program := "ytdmhilhfdcmdiaa", sum := "b9574be1616d1736abf16293fa393a0987b94068bec5fa53db5313b0ef586766", func := "attorney/attorneylaw07.PackStops", spec := "packStops", apart := false, narrowed := true }
def PackStopsUptoSaid : Prop := packStopsUptoRow.holds Try.pinned (OpenSpec.upto packStopsSpec)

/-- 'attorneylaw21.RecordDoes', WHERE WHAT IT READS IS OF BULK AT MOST 1048576: true; the input reads as it did. -/
def recordDoesUptoRow : OpenClaim := { program := "ytdmhilhfdcmdiaa", sum := "b9574be1616d1736abf16293fa393a0987b94068bec5fa53db5313b0ef586766", func := "attorney/attorneylaw21.RecordDoes", spec := "recordDoes", unfollowed := true, recurses := true, apart := false, narrowed := true }
def RecordDoesUptoSaid : Prop := recordDoesUptoRow.holds Try.pinned (OpenSpec.upto recordDoesSpec)

/-- 'attorneylaw21.RecordBytes', WHERE WHAT IT READS IS OF BULK AT MOST 1048576: true; the input reads as it did. -/
def recordBytesUptoRow : OpenClaim := { program := "ytdmhilhfdcmdiaa", sum := "b9574be1616d1736abf16293fa393a0987b94068bec5fa53db5313b0ef586766", func := "attorney/attorneylaw21.RecordBytes", spec := "recordBytes", unfollowed := true, recurses := true, apart := false, narrowed := true }
def RecordBytesUptoSaid : Prop := recordBytesUptoRow.holds Try.pinned (OpenSpec.upto recordBytesSpec)

/-- 'attorneylaw21.RecordBack', WHERE WHAT IT READS IS OF BULK AT MOST 1048576: true; the input reads as it did. -/
def recordBackUptoRow : OpenClaim := { program := "ytdmhilhfdcmdiaa", sum := "b9574be1616d1736abf16293fa393a0987b94068bec5fa53db5313b0ef586766", func := "attorney/attorneylaw21.RecordBack", spec := "recordBack", unfollowed := true, recurses := true, apart := false, narrowed := true }
def RecordBackUptoSaid : Prop := recordBackUptoRow.holds Try.pinned (OpenSpec.upto recordBackSpec)

/-- 'attorneylaw21.RecordLeaves', WHERE WHAT IT READS IS OF BULK AT MOST 1048576: true; the input reads as it did. -/
def recordLeavesUptoRow : OpenClaim := { program := "ytdmhilhfdcmdiaa", sum := "b9574be1616d1736abf16293fa393a0987b94068bec5fa53db5313b0ef586766", func := "attorney/attorneylaw21.RecordLeaves", spec := "recordLeaves", unfollowed := true, recurses := true, apart := false, narrowed := true }
def RecordLeavesUptoSaid : Prop := recordLeavesUptoRow.holds Try.pinned (OpenSpec.upto recordLeavesSpec)

/-- 'attorneylaw21.RecordTurns', WHERE WHAT IT READS IS OF BULK AT MOST 1048576: true; the input reads as it did. -/
def recordTurnsUptoRow : OpenClaim := { program := "ytdmhilhfdcmdiaa", sum := "b9574be1616d1736abf16293fa393a0987b94068bec5fa53db5313b0ef586766", func := "attorney/attorneylaw21.RecordTurns", spec := "recordTurns", unfollowed := true, recurses := true, apart := false, narrowed := true }
def RecordTurnsUptoSaid : Prop := recordTurnsUptoRow.holds Try.pinned (OpenSpec.upto recordTurnsSpec)

end Rows
end Go.Proofs.Ytdmhilhfdcmdiaa
