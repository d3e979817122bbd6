/-
  No cell of these rows narrows 'for every input' (looked for: loops, veiled, ifaces, maps, wideKeys, modest, calm, conditions, laid).
  DERIVED. THE GIVEN ROWS OF THIS SEAT. 3 by the template 'for every input the law returns true; each argument reads behind the call as it read before'; 0 by the template 'total and deterministic' (their statements: YtpiofcjkekpboaaTotals.lean).
  GIVEN WITH THE SEED: the statements are not yours to turn. If you find one false, say at which input.
  Laid BY PROGRAM, IN A SANDBOX (cutbox-rows.mjs): the forced cells as the released guide's own fill.sh prints them over the translation 42389ce195358df2… (all of the seat's roots in one cut). By AI agents, Wed Nov 11 2026. No macro, syntax, notation, axiom, sorry.
-/
import Derived.Test.YtpiofcjkekpboaaChecked
import GoSem.Claim
import GoSem.ClaimJoined
import GoSem.ClaimMapViews
import Derived.JoinedTies
import Derived.KernelRfl
namespace Go.Proofs.Ytpiofcjkekpboaa
/- THE CELL 'sum', in the pinned program and in every row, IS THE sha256 OF THE DUMP (.gsa) THAT YtpiofcjkekpboaaProg.lean LOADS. Nothing in Lean hashes anything: it is a label: what it is worth is what the hold of that sum in a sandbox is worth. -/
noncomputable def Try.pinned : Pinned := { name := "ytpiofcjkekpboaa", sum := "42389ce195358df2d02f03e43bce76eee8c6c69aac3ebaa340d2537c56c1bc07", checked := Try.checked }
namespace Rows
def none {H : Type} : Left H := { results := [], args := [] }

/-- 'attorneylaw01.AtomOne': WHATEVER THE INPUT: true; the input reads as it did. -/
def atomOneSpec : ChangeSpec := { name := "atomOne", fn := fun _ => fun
  | [d] => { results := [.lit (.bool true)], args := [d] }
  | _ => none }
def atomOneRow : OpenClaim := { program := "ytpiofcjkekpboaa", sum := "42389ce195358df2d02f03e43bce76eee8c6c69aac3ebaa340d2537c56c1bc07", func := "attorney/attorneylaw01.AtomOne", spec := "atomOne", plainKeys := false, apart := false }
def AtomOneSaid : Prop := atomOneRow.holds Try.pinned (OpenSpec.ofChange atomOneSpec)

/-- ITS FALSE NEIGHBOUR: 'it returns false'. Refute it at one input. -/
def atomOneWrong : ChangeSpec := { name := "atomOne", fn := fun _ => fun
  | [d] => { results := [.lit (.bool false)], args := [d] }
  | _ => none }
def AtomOneWrongFalsely : Prop := atomOneRow.holds Try.pinned (OpenSpec.ofChange atomOneWrong)

/-- 'attorneylaw21.RecordDoes': WHATEVER THE INPUT: true; the input reads as it did. -/
def recordDoesSpec : ChangeSpec := { name := "recordDoes", fn := fun _ => fun
  | [d1, d2] => { results := [.lit (.bool true)], args := [d1, d2] }
  | _ => none }
def recordDoesRow : OpenClaim := { program := "ytpiofcjkekpboaa", sum := "42389ce195358df2d02f03e43bce76eee8c6c69aac3ebaa340d2537c56c1bc07", func := "attorney/attorneylaw21.RecordDoes", spec := "recordDoes", unfollowed := true, recurses := true, plainKeys := false, apart := false }
def RecordDoesSaid : Prop := recordDoesRow.holds Try.pinned (OpenSpec.ofChange recordDoesSpec)

/-- ITS FALSE NEIGHBOUR: 'it returns false'. Refute it at one input. -/
def recordDoesWrong : ChangeSpec := { name := "recordDoes", fn := fun _ => fun
  | [d1, d2] => { results := [.lit (.bool false)], args := [d1, d2] }
  | _ => none }
def RecordDoesWrongFalsely : Prop := recordDoesRow.holds Try.pinned (OpenSpec.ofChange recordDoesWrong)

/-- 'attorneylaw03.SetMakes': WHATEVER THE INPUT: true; the input reads as it did. -/
def setMakesSpec : ChangeSpec := { name := "setMakes", fn := fun _ => fun
  | [d1, d2, d3] => { results := [.lit (.bool true)], args := [d1, d2, d3] }
  | _ => none }
def setMakesRow : OpenClaim := { program := "ytpiofcjkekpboaa", sum := "42389ce195358df2d02f03e43bce76eee8c6c69aac3ebaa340d2537c56c1bc07", func := "attorney/attorneylaw03.SetMakes", spec := "setMakes", unfollowed := true, recurses := true, plainKeys := false, apart := false }
def SetMakesSaid : Prop := setMakesRow.holds Try.pinned (OpenSpec.ofChange setMakesSpec)

/-- ITS FALSE NEIGHBOUR: 'it returns false'. Refute it at one input. -/
def setMakesWrong : ChangeSpec := { name := "setMakes", fn := fun _ => fun
  | [d1, d2, d3] => { results := [.lit (.bool false)], args := [d1, d2, d3] }
  | _ => none }
def SetMakesWrongFalsely : Prop := setMakesRow.holds Try.pinned (OpenSpec.ofChange setMakesWrong)

/- THE SECOND FORM. 'bulk': how many values and letters a reading holds, each counted each time it is reached (what is shared counts as often as it is met; a slice's spare places count too). A statement '..UptoSaid' is the law's where the arguments, and the package variables that the reading takes, are together of bulk at most 1048576: NARROWER than '..Said'. Prove '..Said' where nothing that the law and all that it calls make is longer than what came in: it says more and counts as full. Else prove '..UptoSaid'. A law counts once. -/
mutual
def uptoBulk {H : Type} : DataW H → Nat
  | .lit (.string bytes) => bytes.length + 1
  | .lit _ => 1
  | .nil => 1
  | .ptr d => uptoBulk d + 1
  | .slice elems spare => uptoBulkAll elems + uptoBulkAll spare + 1
  | .agg parts => uptoBulkAll parts + 1
  | .iface _ d => uptoBulk d + 1
  | .map entries => uptoBulkEntries entries + 1
  | .held _ => 1
def uptoBulkAll {H : Type} : List (DataW H) → Nat
  | [] => 0
  | d :: r => uptoBulk d + uptoBulkAll r
def uptoBulkEntries {H : Type} : List (Lit × DataW H) → Nat
  | [] => 0
  | x :: r => uptoBulkEntry x + uptoBulkEntries r
def uptoBulkEntry {H : Type} : Lit × DataW H → Nat
  | (.string bytes, d) => bytes.length + uptoBulk d + 1
  | (_, d) => uptoBulk d + 1
 end
def uptoSmall : (H : Type) → List (DataW H) → Bool := fun _ ds => decide (uptoBulkAll ds ≤ 1048576)
def OpenSpec.upto (s : _root_.Go.ChangeSpec) : _root_.Go.OpenSpec := { _root_.Go.OpenSpec.ofChange s with cond := some uptoSmall }

/-- 'attorneylaw01.AtomOne', WHERE WHAT IT READS IS OF BULK AT MOST 1048576: true; the input reads as it did. -/
def atomOneUptoRow : OpenClaim := { program := "ytpiofcjkekpboaa", sum := "42389ce195358df2d02f03e43bce76eee8c6c69aac3ebaa340d2537c56c1bc07", func := "attorney/attorneylaw01.AtomOne", spec := "atomOne", plainKeys := false, apart := false, narrowed := true }
def AtomOneUptoSaid : Prop := atomOneUptoRow.holds Try.pinned (OpenSpec.upto atomOneSpec)

/-- 'attorneylaw21.RecordDoes', WHERE WHAT IT READS IS OF BULK AT MOST 1048576: true; the input reads as it did. -/
def recordDoesUptoRow : OpenClaim := { program := "ytpiofcjkekpboaa", sum := "42389ce195358df2d02f03e43bce76eee8c6c69aac3ebaa340d2537c56c1bc07", func := "attorney/attorneylaw21.RecordDoes", spec := "recordDoes", unfollowed := true, recurses := true, plainKeys := false, apart := false, narrowed := true }
def RecordDoesUptoSaid : Prop := recordDoesUptoRow.holds Try.pinned (OpenSpec.upto recordDoesSpec)

/-- 'attorneylaw03.SetMakes', WHERE WHAT IT READS IS OF BULK AT MOST 1048576: true; the input reads as it did. -/
def setMakesUptoRow : OpenClaim := { program := "ytpiofcjkekpboaa", sum := "42389ce195358df2d02f03e43bce76eee8c6c69aac3ebaa340d2537c56c1bc07", func := "attorney/attorneylaw03.SetMakes", spec := "setMakes", unfollowed := true, recurses := true, plainKeys := false, apart := false, narrowed := true }
def SetMakesUptoSaid : Prop := setMakesUptoRow.holds Try.pinned (OpenSpec.upto setMakesSpec)

end Rows
end Go.Proofs.Ytpiofcjkekpboaa
