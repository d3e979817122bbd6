/-
  No cell of these rows narrows 'for every input' (looked for: loops, veiled, ifaces, maps, wideKeys, modest, calm, conditions, laid).
  DERIVED. THE GIVEN ROWS OF THIS SEAT. 12 by the template 'for every input the law returns true; each argument reads behind the call as it read before'; 0 by the template 'total and deterministic' (their statements: YtajpibdchgflnaaTotals.lean).
  GIVEN WITH THE SEED: the statements are not yours to turn. If you find one false, say at which input.
  Laid BY PROGRAM, IN A SANDBOX (cutbox-rows.mjs): the forced cells as the released guide's own fill.sh prints them over the translation e199a719aaf153be… (all of the seat's roots in one cut). By AI agents, Wed Nov 11 2026. No macro, syntax, notation, axiom, sorry.
-/
import Derived.Test.YtajpibdchgflnaaChecked
import GoSem.Claim
import GoSem.ClaimJoined
import GoSem.ClaimMapViews
import Derived.JoinedTies
import Derived.KernelRfl
namespace Go.Proofs.Ytajpibdchgflnaa
/- THE CELL 'sum', in the pinned program and in every row, IS THE sha256 OF THE DUMP (.gsa) THAT YtajpibdchgflnaaProg.lean LOADS. Nothing in Lean hashes anything: it is a label: what it is worth is what the hold of that sum in a sandbox is worth. -/
noncomputable def Try.pinned : Pinned := { name := "ytajpibdchgflnaa", sum := "e199a719aaf153bedc18e29a5d6230c285de1f52d3092dfa782d392c6b31f6cf", checked := Try.checked }
namespace Rows
def none {H : Type} : Left H := { results := [], args := [] }

/-- 'attorneylaw03.SetMakes': WHATEVER THE INPUT: true; the input reads as it did. -/
def setMakesSpec : ChangeSpec := { name := "setMakes", fn := fun _ => fun
  | [d1, d2, d3] => { results := [.lit (.bool true)], args := [d1, d2, d3] }
  | _ => none }
def setMakesRow : OpenClaim := { program := "ytajpibdchgflnaa", sum := "e199a719aaf153bedc18e29a5d6230c285de1f52d3092dfa782d392c6b31f6cf", func := "attorney/attorneylaw03.SetMakes", spec := "setMakes", unfollowed := true, recurses := true, apart := false }
def SetMakesSaid : Prop := setMakesRow.holds Try.pinned (OpenSpec.ofChange setMakesSpec)

/-- ITS FALSE NEIGHBOUR: 'it returns false'. Refute it at one input. -/
def setMakesWrong : ChangeSpec := { name := "setMakes", fn := fun _ => fun
  | [d1, d2, d3] => { results := [.lit (.bool false)], args := [d1, d2, d3] }
  | _ => none }
def SetMakesWrongFalsely : Prop := setMakesRow.holds Try.pinned (OpenSpec.ofChange setMakesWrong)

/-- 'attorneylaw03.SetTells': WHATEVER THE INPUT: true; the input reads as it did. -/
def setTellsSpec : ChangeSpec := { name := "setTells", fn := fun _ => fun
  | [d1, d2, d3] => { results := [.lit (.bool true)], args := [d1, d2, d3] }
  | _ => none }
def setTellsRow : OpenClaim := { program := "ytajpibdchgflnaa", sum := "e199a719aaf153bedc18e29a5d6230c285de1f52d3092dfa782d392c6b31f6cf", func := "attorney/attorneylaw03.SetTells", spec := "setTells", unfollowed := true, recurses := true, apart := false }
def SetTellsSaid : Prop := setTellsRow.holds Try.pinned (OpenSpec.ofChange setTellsSpec)

/-- ITS FALSE NEIGHBOUR: 'it returns false'. Refute it at one input. -/
def setTellsWrong : ChangeSpec := { name := "setTells", fn := fun _ => fun
  | [d1, d2, d3] => { results := [.lit (.bool false)], args := [d1, d2, d3] }
  | _ => none }
def SetTellsWrongFalsely : Prop := setTellsRow.holds Try.pinned (OpenSpec.ofChange setTellsWrong)

/-- 'attorneylaw03.SetAnd': WHATEVER THE INPUT: true; the input reads as it did. -/
def setAndSpec : ChangeSpec := { name := "setAnd", fn := fun _ => fun
  | [d1, d2, d3] => { results := [.lit (.bool true)], args := [d1, d2, d3] }
  | _ => none }
def setAndRow : OpenClaim := { program := "ytajpibdchgflnaa", sum := "e199a719aaf153bedc18e29a5d6230c285de1f52d3092dfa782d392c6b31f6cf", func := "attorney/attorneylaw03.SetAnd", spec := "setAnd", unfollowed := true, recurses := true, apart := false }
def SetAndSaid : Prop := setAndRow.holds Try.pinned (OpenSpec.ofChange setAndSpec)

/-- ITS FALSE NEIGHBOUR: 'it returns false'. Refute it at one input. -/
def setAndWrong : ChangeSpec := { name := "setAnd", fn := fun _ => fun
  | [d1, d2, d3] => { results := [.lit (.bool false)], args := [d1, d2, d3] }
  | _ => none }
def SetAndWrongFalsely : Prop := setAndRow.holds Try.pinned (OpenSpec.ofChange setAndWrong)

/-- 'attorneylaw03.SetQuote': WHATEVER THE INPUT: true; the input reads as it did. -/
def setQuoteSpec : ChangeSpec := { name := "setQuote", fn := fun _ => fun
  | [d1, d2, d3] => { results := [.lit (.bool true)], args := [d1, d2, d3] }
  | _ => none }
def setQuoteRow : OpenClaim := { program := "ytajpibdchgflnaa", sum := "e199a719aaf153bedc18e29a5d6230c285de1f52d3092dfa782d392c6b31f6cf", func := "attorney/attorneylaw03.SetQuote", spec := "setQuote", unfollowed := true, recurses := true, apart := false }
def SetQuoteSaid : Prop := setQuoteRow.holds Try.pinned (OpenSpec.ofChange setQuoteSpec)

/-- ITS FALSE NEIGHBOUR: 'it returns false'. Refute it at one input. -/
def setQuoteWrong : ChangeSpec := { name := "setQuote", fn := fun _ => fun
  | [d1, d2, d3] => { results := [.lit (.bool false)], args := [d1, d2, d3] }
  | _ => none }
def SetQuoteWrongFalsely : Prop := setQuoteRow.holds Try.pinned (OpenSpec.ofChange setQuoteWrong)

/-- 'attorneylaw03.SetFor': WHATEVER THE INPUT: true; the input reads as it did. -/
def setForSpec : ChangeSpec := { name := "setFor", fn := fun _ => fun
  | [d1, d2] => { results := [.lit (.bool true)], args := [d1, d2] }
  | _ => none }
def setForRow : OpenClaim := { program := "ytajpibdchgflnaa", sum := "e199a719aaf153bedc18e29a5d6230c285de1f52d3092dfa782d392c6b31f6cf", func := "attorney/attorneylaw03.SetFor", spec := "setFor", unfollowed := true, recurses := true, apart := false }
def SetForSaid : Prop := setForRow.holds Try.pinned (OpenSpec.ofChange setForSpec)

/-- ITS FALSE NEIGHBOUR: 'it returns false'. Refute it at one input. -/
def setForWrong : ChangeSpec := { name := "setFor", fn := fun _ => fun
  | [d1, d2] => { results := [.lit (.bool false)], args := [d1, d2] }
  | _ => none }
def SetForWrongFalsely : Prop := setForRow.holds Try.pinned (OpenSpec.ofChange setForWrong)

/-- 'attorneylaw03.SetOrder': WHATEVER THE INPUT: true; the input reads as it did. -/
def setOrderSpec : ChangeSpec := { name := "setOrder", fn := fun _ => fun
  | [d1, d2] => { results := [.lit (.bool true)], args := [d1, d2] }
  | _ => none }
def setOrderRow : OpenClaim := { program := "ytajpibdchgflnaa", sum := "e199a719aaf153bedc18e29a5d6230c285de1f52d3092dfa782d392c6b31f6cf", func := "attorney/attorneylaw03.SetOrder", spec := "setOrder", unfollowed := true, recurses := true, apart := false }
def SetOrderSaid : Prop := setOrderRow.holds Try.pinned (OpenSpec.ofChange setOrderSpec)

/-- ITS FALSE NEIGHBOUR: 'it returns false'. Refute it at one input. -/
def setOrderWrong : ChangeSpec := { name := "setOrder", fn := fun _ => fun
  | [d1, d2] => { results := [.lit (.bool false)], args := [d1, d2] }
  | _ => none }
def SetOrderWrongFalsely : Prop := setOrderRow.holds Try.pinned (OpenSpec.ofChange setOrderWrong)

/-- 'attorneylaw08.CertTells': WHATEVER THE INPUT: true; the input reads as it did. -/
def certTellsSpec : ChangeSpec := { name := "certTells", fn := fun _ => fun
  | [d1, d2] => { results := [.lit (.bool true)], args := [d1, d2] }
  | _ => none }
def certTellsRow : OpenClaim := { program := "ytajpibdchgflnaa", sum := "e199a719aaf153bedc18e29a5d6230c285de1f52d3092dfa782d392c6b31f6cf", func := "attorney/attorneylaw08.CertTells", spec := "certTells", unfollowed := true, recurses := true, apart := false }
def CertTellsSaid : Prop := certTellsRow.holds Try.pinned (OpenSpec.ofChange certTellsSpec)

/-- ITS FALSE NEIGHBOUR: 'it returns false'. Refute it at one input. -/
def certTellsWrong : ChangeSpec := { name := "certTells", fn := fun _ => fun
  | [d1, d2] => { results := [.lit (.bool false)], args := [d1, d2] }
  | _ => none }
def CertTellsWrongFalsely : Prop := certTellsRow.holds Try.pinned (OpenSpec.ofChange certTellsWrong)

/-- 'attorneylaw08.CertReads': WHATEVER THE INPUT: true; the input reads as it did. -/
def certReadsSpec : ChangeSpec := { name := "certReads", fn := fun _ => fun
  | [d] => { results := [.lit (.bool true)], args := [d] }
  | _ => none }
def certReadsRow : OpenClaim := { program := "ytajpibdchgflnaa", sum := "e199a719aaf153bedc18e29a5d6230c285de1f52d3092dfa782d392c6b31f6cf", func := "attorney/attorneylaw08.CertReads", spec := "certReads", unfollowed := true, recurses := true, apart := false }
def CertReadsSaid : Prop := certReadsRow.holds Try.pinned (OpenSpec.ofChange certReadsSpec)

/-- ITS FALSE NEIGHBOUR: 'it returns false'. Refute it at one input. -/
def certReadsWrong : ChangeSpec := { name := "certReads", fn := fun _ => fun
  | [d] => { results := [.lit (.bool false)], args := [d] }
  | _ => none }
def CertReadsWrongFalsely : Prop := certReadsRow.holds Try.pinned (OpenSpec.ofChange certReadsWrong)

/-- 'attorneylaw08.CertBack': WHATEVER THE INPUT: true; the input reads as it did. -/
def certBackSpec : ChangeSpec := { name := "certBack", fn := fun _ => fun
  | [d1, d2] => { results := [.lit (.bool true)], args := [d1, d2] }
  | _ => none }
def certBackRow : OpenClaim := { program := "ytajpibdchgflnaa", sum := "e199a719aaf153bedc18e29a5d6230c285de1f52d3092dfa782d392c6b31f6cf", func := "attorney/attorneylaw08.CertBack", spec := "certBack", unfollowed := true, recurses := true, apart := false }
def CertBackSaid : Prop := certBackRow.holds Try.pinned (OpenSpec.ofChange certBackSpec)

/-- ITS FALSE NEIGHBOUR: 'it returns false'. Refute it at one input. -/
def certBackWrong : ChangeSpec := { name := "certBack", fn := fun _ => fun
  | [d1, d2] => { results := [.lit (.bool false)], args := [d1, d2] }
  | _ => none }
def CertBackWrongFalsely : Prop := certBackRow.holds Try.pinned (OpenSpec.ofChange certBackWrong)

/-- 'attorneylaw08.CertShort': WHATEVER THE INPUT: true; the input reads as it did. -/
def certShortSpec : ChangeSpec := { name := "certShort", fn := fun _ => fun
  | [d] => { results := [.lit (.bool true)], args := [d] }
  | _ => none }
def certShortRow : OpenClaim := { program := "ytajpibdchgflnaa", sum := "e199a719aaf153bedc18e29a5d6230c285de1f52d3092dfa782d392c6b31f6cf", func := "attorney/attorneylaw08.CertShort", spec := "certShort", unfollowed := true, recurses := true, apart := false }
def CertShortSaid : Prop := certShortRow.holds Try.pinned (OpenSpec.ofChange certShortSpec)

/-- ITS FALSE NEIGHBOUR: 'it returns false'. Refute it at one input. -/
def certShortWrong : ChangeSpec := { name := "certShort", fn := fun _ => fun
  | [d] => { results := [.lit (.bool false)], args := [d] }
  | _ => none }
def CertShortWrongFalsely : Prop := certShortRow.holds Try.pinned (OpenSpec.ofChange certShortWrong)

/-- 'attorneylaw08.CertDelegates': WHATEVER THE INPUT: true; the input reads as it did. -/
def certDelegatesSpec : ChangeSpec := { name := "certDelegates", fn := fun _ => fun
  | [d1, d2, d3, d4, d5] => { results := [.lit (.bool true)], args := [d1, d2, d3, d4, d5] }
  | _ => none }
def certDelegatesRow : OpenClaim := { program := "ytajpibdchgflnaa", sum := "e199a719aaf153bedc18e29a5d6230c285de1f52d3092dfa782d392c6b31f6cf", func := "attorney/attorneylaw08.CertDelegates", spec := "certDelegates", unfollowed := true, recurses := true, apart := false }
def CertDelegatesSaid : Prop := certDelegatesRow.holds Try.pinned (OpenSpec.ofChange certDelegatesSpec)

/-- ITS FALSE NEIGHBOUR: 'it returns false'. Refute it at one input. -/
def certDelegatesWrong : ChangeSpec := { name := "certDelegates", fn := fun _ => fun
  | [d1, d2, d3, d4, d5] => { results := [.lit (.bool false)], args := [d1, d2, d3, d4, d5] }
  | _ => none }
def CertDelegatesWrongFalsely : Prop := certDelegatesRow.holds Try.pinned (OpenSpec.ofChange certDelegatesWrong)

/-- 'attorneylaw08.CertSame': WHATEVER THE INPUT: true; the input reads as it did. -/
def certSameSpec : ChangeSpec := { name := "certSame", fn := fun _ => fun
  | [d1, d2] => { results := [.lit (.bool true)], args := [d1, d2] }
  | _ => none }
def certSameRow : OpenClaim := { program := "ytajpibdchgflnaa", sum := "e199a719aaf153bedc18e29a5d6230c285de1f52d3092dfa782d392c6b31f6cf", func := "attorney/attorneylaw08.CertSame", spec := "certSame", unfollowed := true, recurses := true, apart := false }
def CertSameSaid : Prop := certSameRow.holds Try.pinned (OpenSpec.ofChange certSameSpec)

/-- ITS FALSE NEIGHBOUR: 'it returns false'. Refute it at one input. -/
def certSameWrong : ChangeSpec := { name := "certSame", fn := fun _ => fun
  | [d1, d2] => { results := [.lit (.bool false)], args := [d1, d2] }
  | _ => none }
def CertSameWrongFalsely : Prop := certSameRow.holds Try.pinned (OpenSpec.ofChange certSameWrong)

/- THE SECOND FORM. 'bulk': how many values and letters a reading holds, each counted each time it is reached (what is shared counts as often as it is met; a slice's spare places count too). A statement '..UptoSaid' is the law's where the arguments, and the package variables that the reading takes, are together of bulk at most 1048576: NARROWER than '..Said'. Prove '..Said' where nothing that the law and all that it calls make is longer than what came in: it says more and counts as full. Else prove '..UptoSaid'. A law counts once. -/
mutual
def uptoBulk {H : Type} : DataW H → Nat
  | .lit (.string bytes) => bytes.length + 1
  | .lit _ => 1
  | .nil => 1
  | .ptr d => uptoBulk d + 1
  | .slice elems spare => uptoBulkAll elems + uptoBulkAll spare + 1
  | .agg parts => uptoBulkAll parts + 1
  | .iface _ d => uptoBulk d + 1
  | .map entries => uptoBulkEntries entries + 1
  | .held _ => 1
def uptoBulkAll {H : Type} : List (DataW H) → Nat
  | [] => 0
  | d :: r => uptoBulk d + uptoBulkAll r
def uptoBulkEntries {H : Type} : List (Lit × DataW H) → Nat
  | [] => 0
  | x :: r => uptoBulkEntry x + uptoBulkEntries r
def uptoBulkEntry {H : Type} : Lit × DataW H → Nat
  | (.string bytes, d) => bytes.length + uptoBulk d + 1
  | (_, d) => uptoBulk d + 1
 end
def uptoSmall : (H : Type) → List (DataW H) → Bool := fun _ ds => decide (uptoBulkAll ds ≤ 1048576)
def OpenSpec.upto (s : _root_.Go.ChangeSpec) : _root_.Go.OpenSpec := { _root_.Go.OpenSpec.ofChange s with cond := some uptoSmall }

/-- 'attorneylaw03.SetMakes', WHERE WHAT IT READS IS OF BULK AT MOST 1048576: true; the input reads as it did. -/
def setMakesUptoRow : OpenClaim := { program := "ytajpibdchgflnaa", sum := "e199a719aaf153bedc18e29a5d6230c285de1f52d3092dfa782d392c6b31f6cf", func := "attorney/attorneylaw03.SetMakes", spec := "setMakes", unfollowed := true, recurses := true, apart := false, narrowed := true }
def SetMakesUptoSaid : Prop := setMakesUptoRow.holds Try.pinned (OpenSpec.upto setMakesSpec)

/-- 'attorneylaw03.SetTells', WHERE WHAT IT READS IS OF BULK AT MOST 1048576: true; the input reads as it did. -/
def setTellsUptoRow : OpenClaim := { program := "ytajpibdchgflnaa", sum := "e199a719aaf153bedc18e29a5d6230c285de1f52d3092dfa782d392c6b31f6cf", func := "attorney/attorneylaw03.SetTells", spec := "setTells", unfollowed := true, recurses := true, apart := false, narrowed := true }
def SetTellsUptoSaid : Prop := setTellsUptoRow.holds Try.pinned (OpenSpec.upto setTellsSpec)

/-- 'attorneylaw03.SetAnd', WHERE WHAT IT READS IS OF BULK AT MOST 1048576: true; the input reads as it did. -/
def setAndUptoRow : OpenClaim := { program := "ytajpibdchgflnaa", sum := "e199a719aaf153bedc18e29a5d6230c285de1f52d3092dfa782d392c6b31f6cf", func := "attorney/attorneylaw03.SetAnd", spec := "setAnd", unfollowed := true, recurses := true, apart := false, narrowed := true }
def SetAndUptoSaid : Prop := setAndUptoRow.holds Try.pinned (OpenSpec.upto setAndSpec)

/-- 'attorneylaw03.SetQuote', WHERE WHAT IT READS IS OF BULK AT MOST 1048576: true; the input reads as it did. -/
def setQuoteUptoRow : OpenClaim := { program := "ytajpibdchgflnaa", sum := "e199a719aaf153bedc18e29a5d6230c285de1f52d3092dfa782d392c6b31f6cf", func := "attorney/attorneylaw03.SetQuote", spec := "setQuote", unfollowed := true, recurses := true, apart := false, narrowed := true }
def SetQuoteUptoSaid : Prop := setQuoteUptoRow.holds Try.pinned (OpenSpec.upto setQuoteSpec)

/-- 'attorneylaw03.SetFor', WHERE WHAT IT READS IS OF BULK AT MOST 1048576: true; the input reads as it did. -/
def setForUptoRow : OpenClaim := { program := "ytajpibdchgflnaa", sum := "e199a719aaf153bedc18e29a5d6230c285de1f52d3092dfa782d392c6b31f6cf", func := "attorney/attorneylaw03.SetFor", spec := "setFor", unfollowed := true, recurses := true, apart := false, narrowed := true }
def SetForUptoSaid : Prop := setForUptoRow.holds Try.pinned (OpenSpec.upto setForSpec)

/-- 'attorneylaw03.SetOrder', WHERE WHAT IT READS IS OF BULK AT MOST 1048576: true; the input reads as it did. -/
def setOrderUptoRow : OpenClaim := { program := "ytajpibdchgflnaa", sum := "e199a719aaf153bedc18e29a5d6230c285de1f52d3092dfa782d392c6b31f6cf", func := "attorney/attorneylaw03.SetOrder", spec := "setOrder", unfollowed := true, recurses := true, apart := false, narrowed := true }
def SetOrderUptoSaid : Prop := setOrderUptoRow.holds Try.pinned (OpenSpec.upto setOrderSpec)

/-- 'attorneylaw08.CertTells', WHERE WHAT IT READS IS OF BULK AT MOST 1048576: true; the input reads as it did. -/
def certTellsUptoRow : OpenClaim := { program := "ytajpibdchgflnaa", sum := "e199a719aaf153bedc18e29a5d6230c285de1f52d3092dfa782d392c6b31f6cf", func := "attorney/attorneylaw08.CertTells", spec := "certTells", unfollowed := true, recurses := true, apart := false, narrowed := true }
def CertTellsUptoSaid : Prop := certTellsUptoRow.holds Try.pinned (OpenSpec.upto certTellsSpec)

/-- 'attorneylaw08.CertReads', WHERE WHAT IT READS IS OF BULK AT MOST 1048576: true; the input reads as it did. -/
def certReadsUptoRow : OpenClaim := { program := "ytajpibdchgflnaa", sum := "e199a719aaf153bedc18e29a5d6230c285de1f52d3092dfa782d392c6b31f6cf", func := "attorney/attorneylaw08.CertReads", spec := "certReads", unfollowed := true, recurses := true, apart := false, narrowed := true }
def CertReadsUptoSaid : Prop := certReadsUptoRow.holds Try.pinned (OpenSpec.upto certReadsSpec)

/-- 'attorneylaw08.CertBack', WHERE WHAT IT READS IS OF BULK AT MOST 1048576: true; the input reads as it did. -/
def certBackUptoRow : OpenClaim := { program := "ytajpibdchgflnaa", sum := "e199a719aaf153bedc18e29a5d6230c285de1f52d3092dfa782d392c6b31f6cf", func := "attorney/attorneylaw08.CertBack", spec := "certBack", unfollowed := true, recurses := true, apart := false, narrowed := true }
def CertBackUptoSaid : Prop := certBackUptoRow.holds Try.pinned (OpenSpec.upto certBackSpec)

/-- 'attorneylaw08.CertShort', WHERE WHAT IT READS IS OF BULK AT MOST 1048576: true; the input reads as it did. -/
def certShortUptoRow : OpenClaim := { program := "ytajpibdchgflnaa", sum := "e199a719aaf153bedc18e29a5d6230c285de1f52d3092dfa782d392c6b31f6cf", func := "attorney/attorneylaw08.CertShort", spec := "certShort", unfollowed := true, recurses := true, apart := false, narrowed := true }
def CertShortUptoSaid : Prop := certShortUptoRow.holds Try.pinned (OpenSpec.upto certShortSpec)

/-- 'attorneylaw08.CertDelegates', WHERE WHAT IT READS IS OF BULK AT MOST 1048576: true; the input reads as it did. -/
def certDelegatesUptoRow : OpenClaim := { program := "ytajpibdchgflnaa", sum := "e199a719aaf153bedc18e29a5d6230c285de1f52d3092dfa782d392c6b31f6cf", func := "attorney/attorneylaw08.CertDelegates", spec := "certDelegates", unfollowed := true, recurses := true, apart := false, narrowed := true }
def CertDelegatesUptoSaid : Prop := certDelegatesUptoRow.holds Try.pinned (OpenSpec.upto certDelegatesSpec)

/-- 'attorneylaw08.CertSame', WHERE WHAT IT READS IS OF BULK AT MOST 1048576: true; the input reads as it did. -/
def certSameUptoRow : OpenClaim := { program := "ytajpibdchgflnaa", sum := "e199a719aaf153bedc18e29a5d6230c285de1f52d3092dfa782d392c6b31f6cf", func := "attorney/attorneylaw08.CertSame", spec := "certSame", unfollowed := true, recurses := true, apart := false, narrowed := true }
def CertSameUptoSaid : Prop := certSameUptoRow.holds Try.pinned (OpenSpec.upto certSameSpec)

end Rows
end Go.Proofs.Ytajpibdchgflnaa
