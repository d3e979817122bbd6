/-
  No cell of these rows narrows 'for every input' (looked for: loops, veiled, ifaces, maps, wideKeys, modest, calm, conditions, laid).
  DERIVED. THE GIVEN ROWS OF THIS SEAT. 6 by the template 'for every input the law returns true; each argument reads behind the call as it read before'; 0 by the template 'total and deterministic' (their statements: YtdlafipcbmbkjaaTotals.lean).
  GIVEN WITH THE SEED: the statements are not yours to turn. If you find one false, say at which input.
  Laid BY PROGRAM, IN A SANDBOX (cutbox-rows.mjs): the forced cells as the released guide's own fill.sh prints them over the translation 4efc83fa6324f17d… (all of the seat's roots in one cut). By AI agents, Wed Nov 11 2026. No macro, syntax, notation, axiom, sorry.
-/
import Derived.Test.YtdlafipcbmbkjaaChecked
import GoSem.Claim
import GoSem.ClaimJoined
import GoSem.ClaimMapViews
import Derived.JoinedTies
import Derived.KernelRfl
namespace Go.Proofs.Ytdlafipcbmbkjaa
/- THE CELL 'sum', in the pinned program and in every row, IS THE sha256 OF THE DUMP (.gsa) THAT YtdlafipcbmbkjaaProg.lean LOADS. Nothing in Lean hashes anything: it is a label: what it is worth is what the hold of that sum in a sandbox is worth. -/
noncomputable def Try.pinned : Pinned := { name := "ytdlafipcbmbkjaa", sum := "4efc83fa6324f17dd2fdc6a2cf065cca85fb9a018fe55c52b9f09eb28224b3cf", checked := Try.checked }
namespace Rows
def none {H : Type} : Left H := { results := [], args := [] }

/-- 'attorneylaw01.AtomDoes': WHATEVER THE INPUT: true; the input reads as it did. -/
def atomDoesSpec : ChangeSpec := { name := "atomDoes", fn := fun _ => fun
  | [d1, d2, d3] => { results := [.lit (.bool true)], args := [d1, d2, d3] }
  | _ => none }
def atomDoesRow : OpenClaim := { program := "ytdlafipcbmbkjaa", sum := "4efc83fa6324f17dd2fdc6a2cf065cca85fb9a018fe55c52b9f09eb28224b3cf", func := "attorney/attorneylaw01.AtomDoes", spec := "atomDoes", plainKeys := false, apart := false }
def AtomDoesSaid : Prop := atomDoesRow.holds Try.pinned (OpenSpec.ofChange atomDoesSpec)

/-- ITS FALSE NEIGHBOUR: 'it returns false'. Refute it at one input. -/
def atomDoesWrong : ChangeSpec := { name := "atomDoes", fn := fun _ => fun
  | [d1, d2, d3] => { results := [.lit (.bool false)], args := [d1, d2, d3] }
  | _ => none }
def AtomDoesWrongFalsely : Prop := atomDoesRow.holds Try.pinned (OpenSpec.ofChange atomDoesWrong)

/-- 'attorneylaw01.AtomNames': WHATEVER THE INPUT: true; the input reads as it did. -/
def atomNamesSpec : ChangeSpec := { name := "atomNames", fn := fun _ => fun
  | [d] => { results := [.lit (.bool true)], args := [d] }
  | _ => none }
def atomNamesRow : OpenClaim := { program := "ytdlafipcbmbkjaa", sum := "4efc83fa6324f17dd2fdc6a2cf065cca85fb9a018fe55c52b9f09eb28224b3cf", func := "attorney/attorneylaw01.AtomNames", spec := "atomNames", plainKeys := false, apart := false }
def AtomNamesSaid : Prop := atomNamesRow.holds Try.pinned (OpenSpec.ofChange atomNamesSpec)

/-- ITS FALSE NEIGHBOUR: 'it returns false'. Refute it at one input. -/
def atomNamesWrong : ChangeSpec := { name := "atomNames", fn := fun _ => fun
  | [d] => { results := [.lit (.bool false)], args := [d] }
  | _ => none }
def AtomNamesWrongFalsely : Prop := atomNamesRow.holds Try.pinned (OpenSpec.ofChange atomNamesWrong)

/-- 'attorneylaw01.AtomLoads': WHATEVER THE INPUT: true; the input reads as it did. -/
def atomLoadsSpec : ChangeSpec := { name := "atomLoads", fn := fun _ => fun
  | [d] => { results := [.lit (.bool true)], args := [d] }
  | _ => none }
def atomLoadsRow : OpenClaim := { program := "ytdlafipcbmbkjaa", sum := "4efc83fa6324f17dd2fdc6a2cf065cca85fb9a018fe55c52b9f09eb28224b3cf", func := "attorney/attorneylaw01.AtomLoads", spec := "atomLoads", plainKeys := false, apart := false }
def AtomLoadsSaid : Prop := atomLoadsRow.holds Try.pinned (OpenSpec.ofChange atomLoadsSpec)

/-- ITS FALSE NEIGHBOUR: 'it returns false'. Refute it at one input. -/
def atomLoadsWrong : ChangeSpec := { name := "atomLoads", fn := fun _ => fun
  | [d] => { results := [.lit (.bool false)], args := [d] }
  | _ => none }
def AtomLoadsWrongFalsely : Prop := atomLoadsRow.holds Try.pinned (OpenSpec.ofChange atomLoadsWrong)

/-- 'attorneylaw01.AtomOne': WHATEVER THE INPUT: true; the input reads as it did. -/
def atomOneSpec : ChangeSpec := { name := "atomOne", fn := fun _ => fun
  | [d] => { results := [.lit (.bool true)], args := [d] }
  | _ => none }
def atomOneRow : OpenClaim := { program := "ytdlafipcbmbkjaa", sum := "4efc83fa6324f17dd2fdc6a2cf065cca85fb9a018fe55c52b9f09eb28224b3cf", func := "attorney/attorneylaw01.AtomOne", spec := "atomOne", plainKeys := false, apart := false }
def AtomOneSaid : Prop := atomOneRow.holds Try.pinned (OpenSpec.ofChange atomOneSpec)

/-- ITS FALSE NEIGHBOUR: 'it returns false'. Refute it at one input. -/
def atomOneWrong : ChangeSpec := { name := "atomOne", fn := fun _ => fun
  | [d] => { results := [.lit (.bool false)], args := [d] }
  | _ => none }
def AtomOneWrongFalsely : Prop := atomOneRow.holds Try.pinned (OpenSpec.ofChange atomOneWrong)

/-- 'attorneylaw01.AtomBack': WHATEVER THE INPUT: true; the input reads as it did. -/
def atomBackSpec : ChangeSpec := { name := "atomBack", fn := fun _ => fun
  | [d] => { results := [.lit (.bool true)], args := [d] }
  | _ => none }
def atomBackRow : OpenClaim := { program := "ytdlafipcbmbkjaa", sum := "4efc83fa6324f17dd2fdc6a2cf065cca85fb9a018fe55c52b9f09eb28224b3cf", func := "attorney/attorneylaw01.AtomBack", spec := "atomBack", plainKeys := false, apart := false }
def AtomBackSaid : Prop := atomBackRow.holds Try.pinned (OpenSpec.ofChange atomBackSpec)

/-- ITS FALSE NEIGHBOUR: 'it returns false'. Refute it at one input. -/
def atomBackWrong : ChangeSpec := { name := "atomBack", fn := fun _ => fun
  | [d] => { results := [.lit (.bool false)], args := [d] }
  | _ => none }
def AtomBackWrongFalsely : Prop := atomBackRow.holds Try.pinned (OpenSpec.ofChange atomBackWrong)

/-- 'attorneylaw01.AtomParts': WHATEVER THE INPUT: true; the input reads as it did. -/
def atomPartsSpec : ChangeSpec := { name := "atomParts", fn := fun _ => fun
  | [d] => { results := [.lit (.bool true)], args := [d] }
  | _ => none }
def atomPartsRow : OpenClaim := { program := "ytdlafipcbmbkjaa", sum := "4efc83fa6324f17dd2fdc6a2cf065cca85fb9a018fe55c52b9f09eb28224b3cf", func := "attorney/attorneylaw01.AtomParts", spec := "atomParts", plainKeys := false, apart := false }
def AtomPartsSaid : Prop := atomPartsRow.holds Try.pinned (OpenSpec.ofChange atomPartsSpec)

/-- ITS FALSE NEIGHBOUR: 'it returns false'. Refute it at one input. -/
def atomPartsWrong : ChangeSpec := { name := "atomParts", fn := fun _ => fun
  | [d] => { results := [.lit (.bool false)], args := [d] }
  | _ => none }
def AtomPartsWrongFalsely : Prop := atomPartsRow.holds Try.pinned (OpenSpec.ofChange atomPartsWrong)

/- THE SECOND FORM. 'bulk': how many values and letters a reading holds, each counted each time it is reached (what is shared counts as often as it is met; a slice's spare places count too). A statement '..UptoSaid' is the law's where the arguments, and the package variables that the reading takes, are together of bulk at most 1048576: NARROWER than '..Said'. Prove '..Said' where nothing that the law and all that it calls make is longer than what came in: it says more and counts as full. Else prove '..UptoSaid'. A law counts once. -/
mutual
def uptoBulk {H : Type} : DataW H → Nat
  | .lit (.string bytes) => bytes.length + 1
  | .lit _ => 1
  | .nil => 1
  | .ptr d => uptoBulk d + 1
  | .slice elems spare => uptoBulkAll elems + uptoBulkAll spare + 1
  | .agg parts => uptoBulkAll parts + 1
  | .iface _ d => uptoBulk d + 1
  | .map entries => uptoBulkEntries entries + 1
  | .held _ => 1
def uptoBulkAll {H : Type} : List (DataW H) → Nat
  | [] => 0
  | d :: r => uptoBulk d + uptoBulkAll r
def uptoBulkEntries {H : Type} : List (Lit × DataW H) → Nat
  | [] => 0
  | x :: r => uptoBulkEntry x + uptoBulkEntries r
def uptoBulkEntry {H : Type} : Lit × DataW H → Nat
  | (.string bytes, d) => bytes.length + uptoBulk d + 1
  | (_, d) => uptoBulk d + 1
 end
def uptoSmall : (H : Type) → List (DataW H) → Bool := fun _ ds => decide (uptoBulkAll ds ≤ 1048576)
def OpenSpec.upto (s : _root_.Go.ChangeSpec) : _root_.Go.OpenSpec := { _root_.Go.OpenSpec.ofChange s with cond := some uptoSmall }

/-- 'attorneylaw01.AtomDoes', WHERE WHAT IT READS IS OF BULK AT MOST 1048576: true; the input reads as it did. -/
def atomDoesUptoRow : OpenClaim := { program := "ytdlafipcbmbkjaa", sum := "4efc83fa6324f17dd2fdc6a2cf065cca85fb9a018fe55c52b9f09eb28224b3cf", func := "attorney/attorneylaw01.AtomDoes", spec := "atomDoes", plainKeys := false, apart := false, narrowed := true }
def AtomDoesUptoSaid : Prop := atomDoesUptoRow.holds Try.pinned (OpenSpec.upto atomDoesSpec)

/-- 'attorneylaw01.AtomNames', WHERE WHAT IT READS IS OF BULK AT MOST 1048576: true; the input reads as it did. -/
def atomNamesUptoRow : OpenClaim := { program := "ytdlafipcbmbkjaa", sum := "4efc83fa6324f17dd2fdc6a2cf065cca85fb9a018fe55c52b9f09eb28224b3cf", func := "attorney/attorneylaw01.AtomNames", spec := "atomNames", plainKeys := false, apart := false, narrowed := true }
def AtomNamesUptoSaid : Prop := atomNamesUptoRow.holds Try.pinned (OpenSpec.upto atomNamesSpec)

/-- 'attorneylaw01.AtomLoads', WHERE WHAT IT READS IS OF BULK AT MOST 1048576: true; the input reads as it did. -/
def atomLoadsUptoRow : OpenClaim := { program := "ytdlafipcbmbkjaa", sum := "4efc83fa6324f17dd2fdc6a2cf065cca85fb9a018fe55c52b9f09eb28224b3cf", func := "attorney/attorneylaw01.AtomLoads", spec := "atomLoads", plainKeys := false, apart := false, narrowed := true }
def AtomLoadsUptoSaid : Prop := atomLoadsUptoRow.holds Try.pinned (OpenSpec.upto atomLoadsSpec)

/-- 'attorneylaw01.AtomOne', WHERE WHAT IT READS IS OF BULK AT MOST 1048576: true; the input reads as it did. -/
def atomOneUptoRow : OpenClaim := { program := "ytdlafipcbmbkjaa", sum := "4efc83fa6324f17dd2fdc6a2cf065cca85fb9a018fe55c52b9f09eb28224b3cf", func := "attorney/attorneylaw01.AtomOne", spec := "atomOne", plainKeys := false, apart := false, narrowed := true }
def AtomOneUptoSaid : Prop := atomOneUptoRow.holds Try.pinned (OpenSpec.upto atomOneSpec)

/-- 'attorneylaw01.AtomBack', WHERE WHAT IT READS IS OF BULK AT MOST 1048576: true; the input reads as it did. -/
def atomBackUptoRow : OpenClaim := { program := "ytdlafipcbmbkjaa", sum := "4efc83fa6324f17dd2fdc6a2cf065cca85fb9a018fe55c52b9f09eb28224b3cf", func := "attorney/attorneylaw01.AtomBack", spec := "atomBack", plainKeys := false, apart := false, narrowed := true }
def AtomBackUptoSaid : Prop := atomBackUptoRow.holds Try.pinned (OpenSpec.upto atomBackSpec)

/-- 'attorneylaw01.AtomParts', WHERE WHAT IT READS IS OF BULK AT MOST 1048576: true; the input reads as it did. -/
def atomPartsUptoRow : OpenClaim := { program := "ytdlafipcbmbkjaa", sum := "4efc83fa6324f17dd2fdc6a2cf065cca85fb9a018fe55c52b9f09eb28224b3cf", func := "attorney/attorneylaw01.AtomParts", spec := "atomParts", plainKeys := false, apart := false, narrowed := true }
def AtomPartsUptoSaid : Prop := atomPartsUptoRow.holds Try.pinned (OpenSpec.upto atomPartsSpec)

end Rows
end Go.Proofs.Ytdlafipcbmbkjaa
