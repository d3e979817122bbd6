/-
  No cell of these rows narrows 'for every input' (looked for: loops, veiled, ifaces, maps, wideKeys, modest, calm, conditions, laid).
  DERIVED. THE GIVEN ROWS OF THIS SEAT. 12 by the template 'for every input the law returns true; each argument reads behind the call as it read before'; 0 by the template 'total and deterministic' (their statements: YtaepikkaogfhbaaTotals.lean).
  GIVEN WITH THE SEED: the statements are not yours to turn. If you find one false, say at which input.
  Laid BY PROGRAM, IN A SANDBOX (cutbox-rows.mjs): the forced cells as the released guide's own fill.sh prints them over the translation 80dc513df5dac70b… (all of the seat's roots in one cut). By AI agents, Wed Nov 11 2026. No macro, syntax, notation, axiom, sorry.
-/
import Derived.Test.YtaepikkaogfhbaaChecked
import GoSem.Claim
import GoSem.ClaimJoined
import GoSem.ClaimMapViews
import Derived.JoinedTies
import Derived.KernelRfl
namespace Go.Proofs.Ytaepikkaogfhbaa
/- THE CELL 'sum', in the pinned program and in every row, IS THE sha256 OF THE DUMP (.gsa) THAT YtaepikkaogfhbaaProg.lean LOADS. Nothing in Lean hashes anything: it is a label: what it is worth is what the hold of that sum in a sandbox is worth. -/
noncomputable def Try.pinned : Pinned := { name := "ytaepikkaogfhbaa", sum := "80dc513df5dac70bee7d297cb0725543d479f75f4a0048db6f78d4c290ca710d", checked := Try.checked }
namespace Rows
def none {H : Type} : Left H := { results := [], args := [] }

/-- 'attorneylaw21.RecordDoes': WHATEVER THE INPUT: true; the input reads as it did. -/
def recordDoesSpec : ChangeSpec := { name := "recordDoes", fn := fun _ => fun
  | [d1, d2] => { results := [.lit (.bool true)], args := [d1, d2] }
  | _ => none }
def recordDoesRow : OpenClaim := { program := "ytaepikkaogfhbaa", sum := "80dc513df5dac70bee7d297cb0725543d479f75f4a0048db6f78d4c290ca710d", func := "attorney/attorneylaw21.RecordDoes", spec := "recordDoes", unfollowed := true, recurses := true, apart := false }
def RecordDoesSaid : Prop := recordDoesRow.holds Try.pinned (OpenSpec.ofChange recordDoesSpec)

/-- ITS FALSE NEIGHBOUR: 'it returns false'. Refute it at one input. -/
def recordDoesWrong : ChangeSpec := { name := "recordDoes", fn := fun _ => fun
  | [d1, d2] => { results := [.lit (.bool false)], args := [d1, d2] }
  | _ => none }
def RecordDoesWrongFalsely : Prop := recordDoesRow.holds Try.pinned (OpenSpec.ofChange recordDoesWrong)

/-- 'attorneylaw21.RecordBytes': WHATEVER THE INPUT: true; the input reads as it did. -/
def recordBytesSpec : ChangeSpec := { name := "recordBytes", fn := fun _ => fun
  | [d1, d2] => { results := [.lit (.bool true)], args := [d1, d2] }
  | _ => none }
def recordBytesRow : OpenClaim := { program := "ytaepikkaogfhbaa", sum := "80dc513df5dac70bee7d297cb0725543d479f75f4a0048db6f78d4c290ca710d", func := "attorney/attorneylaw21.RecordBytes", spec := "recordBytes", unfollowed := true, recurses := true, apart := false }
def RecordBytesSaid : Prop := recordBytesRow.holds Try.pinned (OpenSpec.ofChange recordBytesSpec)

/-- ITS FALSE NEIGHBOUR: 'it returns false'. Refute it at one input. -/
def recordBytesWrong : ChangeSpec := { name := "recordBytes", fn := fun _ => fun
  | [d1, d2] => { results := [.lit (.bool false)], args := [d1, d2] }
  | _ => none }
def RecordBytesWrongFalsely : Prop := recordBytesRow.holds Try.pinned (OpenSpec.ofChange recordBytesWrong)

/-- 'attorneylaw21.RecordBack': WHATEVER THE INPUT: true; the input reads as it did. -/
def recordBackSpec : ChangeSpec := { name := "recordBack", fn := fun _ => fun
  | [d1, d2] => { results := [.lit (.bool true)], args := [d1, d2] }
  | _ => none }
def recordBackRow : OpenClaim := { program := "ytaepikkaogfhbaa", sum := "80dc513df5dac70bee7d297cb0725543d479f75f4a0048db6f78d4c290ca710d", func := "attorney/attorneylaw21.RecordBack", spec := "recordBack", unfollowed := true, recurses := true, apart := false }
def RecordBackSaid : Prop := recordBackRow.holds Try.pinned (OpenSpec.ofChange recordBackSpec)

/-- ITS FALSE NEIGHBOUR: 'it returns false'. Refute it at one input. -/
def recordBackWrong : ChangeSpec := { name := "recordBack", fn := fun _ => fun
  | [d1, d2] => { results := [.lit (.bool false)], args := [d1, d2] }
  | _ => none }
def RecordBackWrongFalsely : Prop := recordBackRow.holds Try.pinned (OpenSpec.ofChange recordBackWrong)

/-- 'attorneylaw21.RecordLeaves': WHATEVER THE INPUT: true; the input reads as it did. -/
def recordLeavesSpec : ChangeSpec := { name := "recordLeaves", fn := fun _ => fun
  | [d1, d2] => { results := [.lit (.bool true)], args := [d1, d2] }
  | _ => none }
def recordLeavesRow : OpenClaim := { program := "ytaepikkaogfhbaa", sum := "80dc513df5dac70bee7d297cb0725543d479f75f4a0048db6f78d4c290ca710d", func := "attorney/attorneylaw21.RecordLeaves", spec := "recordLeaves", unfollowed := true, recurses := true, apart := false }
def RecordLeavesSaid : Prop := recordLeavesRow.holds Try.pinned (OpenSpec.ofChange recordLeavesSpec)

/-- ITS FALSE NEIGHBOUR: 'it returns false'. Refute it at one input. -/
def recordLeavesWrong : ChangeSpec := { name := "recordLeaves", fn := fun _ => fun
  | [d1, d2] => { results := [.lit (.bool false)], args := [d1, d2] }
  | _ => none }
def RecordLeavesWrongFalsely : Prop := recordLeavesRow.holds Try.pinned (OpenSpec.ofChange recordLeavesWrong)

/-- 'attorneylaw21.RecordTurns': WHATEVER THE INPUT: true; the input reads as it did. -/
def recordTurnsSpec : ChangeSpec := { name := "recordTurns", fn := fun _ => fun
  | [d1, d2, d3] => { results := [.lit (.bool true)], args := [d1, d2, d3] }
  | _ => none }
def recordTurnsRow : OpenClaim := { program := "ytaepikkaogfhbaa", sum := "80dc513df5dac70bee7d297cb0725543d479f75f4a0048db6f78d4c290ca710d", func := "attorney/attorneylaw21.RecordTurns", spec := "recordTurns", unfollowed := true, recurses := true, apart := false }
def RecordTurnsSaid : Prop := recordTurnsRow.holds Try.pinned (OpenSpec.ofChange recordTurnsSpec)

/-- ITS FALSE NEIGHBOUR: 'it returns false'. Refute it at one input. -/
def recordTurnsWrong : ChangeSpec := { name := "recordTurns", fn := fun _ => fun
  | [d1, d2, d3] => { results := [.lit (.bool false)], args := [d1, d2, d3] }
  | _ => none }
def RecordTurnsWrongFalsely : Prop := recordTurnsRow.holds Try.pinned (OpenSpec.ofChange recordTurnsWrong)

/-- 'attorneylaw08.CertTells': WHATEVER THE INPUT: true; the input reads as it did. -/
def certTellsSpec : ChangeSpec := { name := "certTells", fn := fun _ => fun
  | [d1, d2] => { results := [.lit (.bool true)], args := [d1, d2] }
  | _ => none }
def certTellsRow : OpenClaim := { program := "ytaepikkaogfhbaa", sum := "80dc513df5dac70bee7d297cb0725543d479f75f4a0048db6f78d4c290ca710d", func := "attorney/attorneylaw08.CertTells", spec := "certTells", unfollowed := true, recurses := true, apart := false }
def CertTellsSaid : Prop := certTellsRow.holds Try.pinned (OpenSpec.ofChange certTellsSpec)

/-- ITS FALSE NEIGHBOUR: 'it returns false'. Refute it at one input. -/
def certTellsWrong : ChangeSpec := { name := "certTells", fn := fun _ => fun
  | [d1, d2] => { results := [.lit (.bool false)], args := [d1, d2] }
  | _ => none }
def CertTellsWrongFalsely : Prop := certTellsRow.holds Try.pinned (OpenSpec.ofChange certTellsWrong)

/-- 'attorneylaw08.CertReads': WHATEVER THE INPUT: true; the input reads as it did. -/
def certReadsSpec : ChangeSpec := { name := "certReads", fn := fun _ => fun
  | [d] => { results := [.lit (.bool true)], args := [d] }
  | _ => none }
def certReadsRow : OpenClaim := { program := "ytaepikkaogfhbaa", sum := "80dc513df5dac70bee7d297cb0725543d479f75f4a0048db6f78d4c290ca710d", func := "attorney/attorneylaw08.CertReads", spec := "certReads", unfollowed := true, recurses := true, apart := false }
def CertReadsSaid : Prop := certReadsRow.holds Try.pinned (OpenSpec.ofChange certReadsSpec)

/-- ITS FALSE NEIGHBOUR: 'it returns false'. Refute it at one input. -/
def certReadsWrong : ChangeSpec := { name := "certReads", fn := fun _ => fun
  | [d] => { results := [.lit (.bool false)], args := [d] }
  | _ => none }
def CertReadsWrongFalsely : Prop := certReadsRow.holds Try.pinned (OpenSpec.ofChange certReadsWrong)

/-- 'attorneylaw08.CertBack': WHATEVER THE INPUT: true; the input reads as it did. -/
def certBackSpec : ChangeSpec := { name := "certBack", fn := fun _ => fun
  | [d1, d2] => { results := [.lit (.bool true)], args := [d1, d2] }
  | _ => none }
def certBackRow : OpenClaim := { program := "ytaepikkaogfhbaa", sum := "80dc513df5dac70bee7d297cb0725543d479f75f4a0048db6f78d4c290ca710d", func := "attorney/attorneylaw08.CertBack", spec := "certBack", unfollowed := true, recurses := true, apart := false }
def CertBackSaid : Prop := certBackRow.holds Try.pinned (OpenSpec.ofChange certBackSpec)

/-- ITS FALSE NEIGHBOUR: 'it returns false'. Refute it at one input. -/
def certBackWrong : ChangeSpec := { name := "certBack", fn := fun _ => fun
  | [d1, d2] => { results := [.lit (.bool false)], args := [d1, d2] }
  | _ => none }
def CertBackWrongFalsely : Prop := certBackRow.holds Try.pinned (OpenSpec.ofChange certBackWrong)

/-- 'attorneylaw08.CertShort': WHATEVER THE INPUT: true; the input reads as it did. -/
def certShortSpec : ChangeSpec := { name := "certShort", fn := fun _ => fun
  | [d] => { results := [.lit (.bool true)], args := [d] }
  | _ => none }
def certShortRow : OpenClaim := { program := "ytaepikkaogfhbaa", sum := "80dc513df5dac70bee7d297cb0725543d479f75f4a0048db6f78d4c290ca710d", func := "attorney/attorneylaw08.CertShort", spec := "certShort", unfollowed := true, recurses := true, apart := false }
def CertShortSaid : Prop := certShortRow.holds Try.pinned (OpenSpec.ofChange certShortSpec)

/-- ITS FALSE NEIGHBOUR: 'it returns false'. Refute it at one input. -/
def certShortWrong : ChangeSpec := { name := "certShort", fn := fun _ => fun
  | [d] => { results := [.lit (.bool false)], args := [d] }
  | _ => none }
def CertShortWrongFalsely : Prop := certShortRow.holds Try.pinned (OpenSpec.ofChange certShortWrong)

/-- 'attorneylaw08.CertDelegates': WHATEVER THE INPUT: true; the input reads as it did. -/
def certDelegatesSpec : ChangeSpec := { name := "certDelegates", fn := fun _ => fun
  | [d1, d2, d3, d4, d5] => { results := [.lit (.bool true)], args := [d1, d2, d3, d4, d5] }
  | _ => none }
def certDelegatesRow : OpenClaim := { program := "ytaepikkaogfhbaa", sum := "80dc513df5dac70bee7d297cb0725543d479f75f4a0048db6f78d4c290ca710d", func := "attorney/attorneylaw08.CertDelegates", spec := "certDelegates", unfollowed := true, recurses := true, apart := false }
def CertDelegatesSaid : Prop := certDelegatesRow.holds Try.pinned (OpenSpec.ofChange certDelegatesSpec)

/-- ITS FALSE NEIGHBOUR: 'it returns false'. Refute it at one input. -/
def certDelegatesWrong : ChangeSpec := { name := "certDelegates", fn := fun _ => fun
  | [d1, d2, d3, d4, d5] => { results := [.lit (.bool false)], args := [d1, d2, d3, d4, d5] }
  | _ => none }
def CertDelegatesWrongFalsely : Prop := certDelegatesRow.holds Try.pinned (OpenSpec.ofChange certDelegatesWrong)

/-- 'attorneylaw08.CertSame': WHATEVER THE INPUT: true; the input reads as it did. -/
def certSameSpec : ChangeSpec := { name := "certSame", fn := fun _ => fun
  | [d1, d2] => { results := [.lit (.bool true)], args := [d1, d2] }
  | _ => none }
def certSameRow : OpenClaim := { program := "ytaepikkaogfhbaa", sum := "80dc513df5dac70bee7d297cb0725543d479f75f4a0048db6f78d4c290ca710d", func := "attorney/attorneylaw08.CertSame", spec := "certSame", unfollowed := true, recurses := true, apart := false }
def CertSameSaid : Prop := certSameRow.holds Try.pinned (OpenSpec.ofChange certSameSpec)

/-- ITS FALSE NEIGHBOUR: 'it returns false'. Refute it at one input. -/
def certSameWrong : ChangeSpec := { name := "certSame", fn := fun _ => fun
  | [d1, d2] => { results := [.lit (.bool false)], args := [d1, d2] }
  | _ => none }
def CertSameWrongFalsely : Prop := certSameRow.holds Try.pinned (OpenSpec.ofChange certSameWrong)

/-- 'attorneylaw08.CertHolds': WHATEVER THE INPUT: true; the input reads as it did. -/
def certHoldsSpec : ChangeSpec := { name := "certHolds", fn := fun _ => fun
  | [d1, d2] => { results := [.lit (.bool true)], args := [d1, d2] }
  | _ => none }
def certHoldsRow : OpenClaim := { program := "ytaepikkaogfhbaa", sum := "80dc513df5dac70bee7d297cb0725543d479f75f4a0048db6f78d4c290ca710d", func := "attorney/attorneylaw08.CertHolds", spec := "certHolds", unfollowed := true, recurses := true, apart := false }
def CertHoldsSaid : Prop := certHoldsRow.holds Try.pinned (OpenSpec.ofChange certHoldsSpec)

/-- ITS FALSE NEIGHBOUR: 'it returns false'. Refute it at one input. -/
def certHoldsWrong : ChangeSpec := { name := "certHolds", fn := fun _ => fun
  | [d1, d2] => { results := [.lit (.bool false)], args := [d1, d2] }
  | _ => none }
def CertHoldsWrongFalsely : Prop := certHoldsRow.holds Try.pinned (OpenSpec.ofChange certHoldsWrong)

/- THE SECOND FORM. 'bulk': how many values and letters a reading holds, each counted each time it is reached (what is shared counts as often as it is met; a slice's spare places count too). A statement '..UptoSaid' is the law's where the arguments, and the package variables that the reading takes, are together of bulk at most 1048576: NARROWER than '..Said'. Prove '..Said' where nothing that the law and all that it calls make is longer than what came in: it says more and counts as full. Else prove '..UptoSaid'. A law counts once. -/
mutual
def uptoBulk {H : Type} : DataW H → Nat
  | .lit (.string bytes) => bytes.length + 1
  | .lit _ => 1
  | .nil => 1
  | .ptr d => uptoBulk d + 1
  | .slice elems spare => uptoBulkAll elems + uptoBulkAll spare + 1
  | .agg parts => uptoBulkAll parts + 1
  | .iface _ d => uptoBulk d + 1
  | .map entries => uptoBulkEntries entries + 1
  | .held _ => 1
def uptoBulkAll {H : Type} : List (DataW H) → Nat
  | [] => 0
  | d :: r => uptoBulk d + uptoBulkAll r
def uptoBulkEntries {H : Type} : List (Lit × DataW H) → Nat
  | [] => 0
  | x :: r => uptoBulkEntry x + uptoBulkEntries r
def uptoBulkEntry {H : Type} : Lit × DataW H → Nat
  | (.string bytes, d) => bytes.length + uptoBulk d + 1
  | (_, d) => uptoBulk d + 1
 end
def uptoSmall : (H : Type) → List (DataW H) → Bool := fun _ ds => decide (uptoBulkAll ds ≤ 1048576)
def OpenSpec.upto (s : _root_.Go.ChangeSpec) : _root_.Go.OpenSpec := { _root_.Go.OpenSpec.ofChange s with cond := some uptoSmall }

/-- 'attorneylaw21.RecordDoes', WHERE WHAT IT READS IS OF BULK AT MOST 1048576: true; the input reads as it did. -/
def recordDoesUptoRow : OpenClaim := { program := "ytaepikkaogfhbaa", sum := "80dc513df5dac70bee7d297cb0725543d479f75f4a0048db6f78d4c290ca710d", func := "attorney/attorneylaw21.RecordDoes", spec := "recordDoes", unfollowed := true, recurses := true, apart := false, narrowed := true }
def RecordDoesUptoSaid : Prop := recordDoesUptoRow.holds Try.pinned (OpenSpec.upto recordDoesSpec)

/-- 'attorneylaw21.RecordBytes', WHERE WHAT IT READS IS OF BULK AT MOST 1048576: true; the input reads as it did. -/
def recordBytesUptoRow : OpenClaim := { program := "ytaepikkaogfhbaa", sum := "80dc513df5dac70bee7d297cb0725543d479f75f4a0048db6f78d4c290ca710d", func := "attorney/attorneylaw21.RecordBytes", spec := "recordBytes", unfollowed := true, recurses := true, apart := false, narrowed := true }
def RecordBytesUptoSaid : Prop := recordBytesUptoRow.holds Try.pinned (OpenSpec.upto recordBytesSpec)

/-- 'attorneylaw21.RecordBack', WHERE WHAT IT READS IS OF BULK AT MOST 1048576: true; the input reads as it did. -/
def recordBackUptoRow : OpenClaim := { program := "ytaepikkaogfhbaa", sum := "80dc513df5dac70bee7d297cb0725543d479f75f4a0048db6f78d4c290ca710d", func := "attorney/attorneylaw21.RecordBack", spec := "recordBack", unfollowed := true, recurses := true, apart := false, narrowed := true }
def RecordBackUptoSaid : Prop := recordBackUptoRow.holds Try.pinned (OpenSpec.upto recordBackSpec)

/-- 'attorneylaw21.RecordLeaves', WHERE WHAT IT READS IS OF BULK AT MOST 1048576: true; the input reads as it did. -/
def recordLeavesUptoRow : OpenClaim := { program := "ytaepikkaogfhbaa", sum := "80dc513df5dac70bee7d297cb0725543d479f75f4a0048db6f78d4c290ca710d", func := "attorney/attorneylaw21.RecordLeaves", spec := "recordLeaves", unfollowed := true, recurses := true, apart := false, narrowed := true }
def RecordLeavesUptoSaid : Prop := recordLeavesUptoRow.holds Try.pinned (OpenSpec.upto recordLeavesSpec)

/-- 'attorneylaw21.RecordTurns', WHERE WHAT IT READS IS OF BULK AT MOST 1048576: true; the input reads as it did. -/
def recordTurnsUptoRow : OpenClaim := { program := "ytaepikkaogfhbaa", sum := "80dc513df5dac70bee7d297cb0725543d479f75f4a0048db6f78d4c290ca710d", func := "attorney/attorneylaw21.RecordTurns", spec := "recordTurns", unfollowed := true, recurses := true, apart := false, narrowed := true }
def RecordTurnsUptoSaid : Prop := recordTurnsUptoRow.holds Try.pinned (OpenSpec.upto recordTurnsSpec)

/-- 'attorneylaw08.CertTells', WHERE WHAT IT READS IS OF BULK AT MOST 1048576: true; the input reads as it did. -/
def certTellsUptoRow : OpenClaim := { program := "ytaepikkaogfhbaa", sum := "80dc513df5dac70bee7d297cb0725543d479f75f4a0048db6f78d4c290ca710d", func := "attorney/attorneylaw08.CertTells", spec := "certTells", unfollowed := true, recurses := true, apart := false, narrowed := true }
def CertTellsUptoSaid : Prop := certTellsUptoRow.holds Try.pinned (OpenSpec.upto certTellsSpec)

/-- 'attorneylaw08.CertReads', WHERE WHAT IT READS IS OF BULK AT MOST 1048576: true; the input reads as it did. -/
def certReadsUptoRow : OpenClaim := { program := "ytaepikkaogfhbaa", sum := "80dc513df5dac70bee7d297cb0725543d479f75f4a0048db6f78d4c290ca710d", func := "attorney/attorneylaw08.CertReads", spec := "certReads", unfollowed := true, recurses := true, apart := false, narrowed := true }
def CertReadsUptoSaid : Prop := certReadsUptoRow.holds Try.pinned (OpenSpec.upto certReadsSpec)

/-- 'attorneylaw08.CertBack', WHERE WHAT IT READS IS OF BULK AT MOST 1048576: true; the input reads as it did. -/
def certBackUptoRow : OpenClaim := { program := "ytaepikkaogfhbaa", sum := "80dc513df5dac70bee7d297cb0725543d479f75f4a0048db6f78d4c290ca710d", func := "attorney/attorneylaw08.CertBack", spec := "certBack", unfollowed := true, recurses := true, apart := false, narrowed := true }
def CertBackUptoSaid : Prop := certBackUptoRow.holds Try.pinned (OpenSpec.upto certBackSpec)

/-- 'attorneylaw08.CertShort', WHERE WHAT IT READS IS OF BULK AT MOST 1048576: true; the input reads as it did. -/
def certShortUptoRow : OpenClaim := { program := "ytaepikkaogfhbaa", sum := "80dc513df5dac70bee7d297cb0725543d479f75f4a0048db6f78d4c290ca710d", func := "attorney/attorneylaw08.CertShort", spec := "certShort", unfollowed := true, recurses := true, apart := false, narrowed := true }
def CertShortUptoSaid : Prop := certShortUptoRow.holds Try.pinned (OpenSpec.upto certShortSpec)

/-- 'attorneylaw08.CertDelegates', WHERE WHAT IT READS IS OF BULK AT MOST 1048576: true; the input reads as it did. -/
def certDelegatesUptoRow : OpenClaim := { program := "ytaepikkaogfhbaa", sum := "80dc513df5dac70bee7d297cb0725543d479f75f4a0048db6f78d4c290ca710d", func := "attorney/attorneylaw08.CertDelegates", spec := "certDelegates", unfollowed := true, recurses := true, apart := false, narrowed := true }
def CertDelegatesUptoSaid : Prop := certDelegatesUptoRow.holds Try.pinned (OpenSpec.upto certDelegatesSpec)

/-- 'attorneylaw08.CertSame', WHERE WHAT IT READS IS OF BULK AT MOST 1048576: true; the input reads as it did. -/
def certSameUptoRow : OpenClaim := { program := "ytaepikkaogfhbaa", sum := "80dc513df5dac70bee7d297cb0725543d479f75f4a0048db6f78d4c290ca710d", func := "attorney/attorneylaw08.CertSame", spec := "certSame", unfollowed := true, recurses := true, apart := false, narrowed := true }
def CertSameUptoSaid : Prop := certSameUptoRow.holds Try.pinned (OpenSpec.upto certSameSpec)

/-- 'attorneylaw08.CertHolds', WHERE WHAT IT READS IS OF BULK AT MOST 1048576: true; the input reads as it did. -/
def certHoldsUptoRow : OpenClaim := { program := "ytaepikkaogfhbaa", sum := "80dc513df5dac70bee7d297cb0725543d479f75f4a0048db6f78d4c290ca710d", func := "attorney/attorneylaw08.CertHolds", spec := "certHolds", unfollowed := true, recurses := true, apart := false, narrowed := true }
def CertHoldsUptoSaid : Prop := certHoldsUptoRow.holds Try.pinned (OpenSpec.upto certHoldsSpec)

end Rows
end Go.Proofs.Ytaepikkaogfhbaa
