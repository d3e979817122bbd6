/-
  No cell of these rows narrows 'for every input' (looked for: loops, veiled, ifaces, maps, wideKeys, modest, calm, conditions, laid).
  DERIVED. THE GIVEN ROWS OF THIS SEAT. 6 by the template 'for every input the law returns true; each argument reads behind the call as it read before'; 0 by the template 'total and deterministic' (their statements: YtnmikopkjdekaaaTotals.lean).
  GIVEN WITH THE SEED: the statements are not yours to turn. If you find one false, say at which input.
  Laid BY PROGRAM, IN A SANDBOX (cutbox-rows.mjs): the forced cells as the released guide's own fill.sh prints them over the translation 20130bd90d5b6e2b… (all of the seat's roots in one cut). By AI agents, Wed Nov 11 2026. No macro, syntax, notation, axiom, sorry.
-/
import Derived.Test.YtnmikopkjdekaaaChecked
import GoSem.Claim
import GoSem.ClaimJoined
import GoSem.ClaimMapViews
import Derived.JoinedTies
import Derived.KernelRfl
namespace Go.Proofs.Ytnmikopkjdekaaa
/- THE CELL 'sum', in the pinned program and in every row, IS THE sha256 OF THE DUMP (.gsa) THAT YtnmikopkjdekaaaProg.lean LOADS. Nothing in Lean hashes anything: it is a label: what it is worth is what the hold of that sum in a sandbox is worth. -/
noncomputable def Try.pinned : Pinned := { name := "ytnmikopkjdekaaa", sum := "20130bd90d5b6e2b8b5459052472023e1bc00fbdd2b398ef3f3444c5908ad68f", checked := Try.checked }
namespace Rows
def none {H : Type} : Left H := { results := [], args := [] }

/-- 'attorneylaw14.ModelTells': WHATEVER THE INPUT: true; the input reads as it did. -/
def modelTellsSpec : ChangeSpec := { name := "modelTells", fn := fun _ => fun
  | [d1, d2, d3, d4] => { results := [.lit (.bool true)], args := [d1, d2, d3, d4] }
  | _ => none }
def modelTellsRow : OpenClaim := { program := "ytnmikopkjdekaaa", sum := "20130bd90d5b6e2b8b5459052472023e1bc00fbdd2b398ef3f3444c5908ad68f", func := "attorney/attorneylaw14.ModelTells", spec := "modelTells", unfollowed := true, recurses := true, apart := false }
def ModelTellsSaid : Prop := modelTellsRow.holds Try.pinned (OpenSpec.ofChange modelTellsSpec)

/-- ITS FALSE NEIGHBOUR: 'it returns false'. Refute it at one input. -/
def modelTellsWrong : ChangeSpec := { name := "modelTells", fn := fun _ => fun
  | [d1, d2, d3, d4] => { results := [.lit (.bool false)], args := [d1, d2, d3, d4] }
  | _ => none }
def ModelTellsWrongFalsely : Prop := modelTellsRow.holds Try.pinned (OpenSpec.ofChange modelTellsWrong)

/-- 'attorneylaw14.ModelHonest': WHATEVER THE INPUT: true; the input reads as it did. -/
def modelHonestSpec : ChangeSpec := { name := "modelHonest", fn := fun _ => fun
  | [d1, d2] => { results := [.lit (.bool true)], args := [d1, d2] }
  | _ => none }
def modelHonestRow : OpenClaim := { program := "ytnmikopkjdekaaa", sum := "20130bd90d5b6e2b8b5459052472023e1bc00fbdd2b398ef3f3444c5908ad68f", func := "attorney/attorneylaw14.ModelHonest", spec := "modelHonest", unfollowed := true, recurses := true, apart := false }
def ModelHonestSaid : Prop := modelHonestRow.holds Try.pinned (OpenSpec.ofChange modelHonestSpec)

/-- ITS FALSE NEIGHBOUR: 'it returns false'. Refute it at one input. -/
def modelHonestWrong : ChangeSpec := { name := "modelHonest", fn := fun _ => fun
  | [d1, d2] => { results := [.lit (.bool false)], args := [d1, d2] }
  | _ => none }
def ModelHonestWrongFalsely : Prop := modelHonestRow.holds Try.pinned (OpenSpec.ofChange modelHonestWrong)

/-- 'attorneylaw14.ModelSpeaks': WHATEVER THE INPUT: true; the input reads as it did. -/
def modelSpeaksSpec : ChangeSpec := { name := "modelSpeaks", fn := fun _ => fun
  | [d1, d2, d3, d4] => { results := [.lit (.bool true)], args := [d1, d2, d3, d4] }
  | _ => none }
def modelSpeaksRow : OpenClaim := { program := "ytnmikopkjdekaaa", sum := "20130bd90d5b6e2b8b5459052472023e1bc00fbdd2b398ef3f3444c5908ad68f", func := "attorney/attorneylaw14.ModelSpeaks", spec := "modelSpeaks", unfollowed := true, recurses := true, apart := false }
def ModelSpeaksSaid : Prop := modelSpeaksRow.holds Try.pinned (OpenSpec.ofChange modelSpeaksSpec)

/-- ITS FALSE NEIGHBOUR: 'it returns false'. Refute it at one input. -/
def modelSpeaksWrong : ChangeSpec := { name := "modelSpeaks", fn := fun _ => fun
  | [d1, d2, d3, d4] => { results := [.lit (.bool false)], args := [d1, d2, d3, d4] }
  | _ => none }
def ModelSpeaksWrongFalsely : Prop := modelSpeaksRow.holds Try.pinned (OpenSpec.ofChange modelSpeaksWrong)

/-- 'attorneylaw14.ModelAround': WHATEVER THE INPUT: true; the input reads as it did. -/
def modelAroundSpec : ChangeSpec := { name := "modelAround", fn := fun _ => fun
  | [d1, d2, d3, d4] => { results := [.lit (.bool true)], args := [d1, d2, d3, d4] }
  | _ => none }
def modelAroundRow : OpenClaim := { program := "ytnmikopkjdekaaa", sum := "20130bd90d5b6e2b8b5459052472023e1bc00fbdd2b398ef3f3444c5908ad68f", func := "attorney/attorneylaw14.ModelAround", spec := "modelAround", unfollowed := true, recurses := true, apart := false }
def ModelAroundSaid : Prop := modelAroundRow.holds Try.pinned (OpenSpec.ofChange modelAroundSpec)

/-- ITS FALSE NEIGHBOUR: 'it returns false'. Refute it at one input. -/
def modelAroundWrong : ChangeSpec := { name := "modelAround", fn := fun _ => fun
  | [d1, d2, d3, d4] => { results := [.lit (.bool false)], args := [d1, d2, d3, d4] }
  | _ => none }
def ModelAroundWrongFalsely : Prop := modelAroundRow.holds Try.pinned (OpenSpec.ofChange modelAroundWrong)

/-- 'attorneylaw14.ModelSets': WHATEVER THE INPUT: true; the input reads as it did. -/
def modelSetsSpec : ChangeSpec := { name := "modelSets", fn := fun _ => fun
  | [d1, d2, d3] => { results := [.lit (.bool true)], args := [d1, d2, d3] }
  | _ => none }
def modelSetsRow : OpenClaim := { program := "ytnmikopkjdekaaa", sum := "20130bd90d5b6e2b8b5459052472023e1bc00fbdd2b398ef3f3444c5908ad68f", func := "attorney/attorneylaw14.ModelSets", spec := "modelSets", unfollowed := true, recurses := true, apart := false }
def ModelSetsSaid : Prop := modelSetsRow.holds Try.pinned (OpenSpec.ofChange modelSetsSpec)

/-- ITS FALSE NEIGHBOUR: 'it returns false'. Refute it at one input. -/
def modelSetsWrong : ChangeSpec := { name := "modelSets", fn := fun _ => fun
  | [d1, d2, d3] => { results := [.lit (.bool false)], args := [d1, d2, d3] }
  | _ => none }
def ModelSetsWrongFalsely : Prop := modelSetsRow.holds Try.pinned (OpenSpec.ofChange modelSetsWrong)

/-- 'attorneylaw14.ModelMore': WHATEVER THE INPUT: true; the input reads as it did. -/
def modelMoreSpec : ChangeSpec := { name := "modelMore", fn := fun _ => fun
  | [d1, d2, d3, d4] => { results := [.lit (.bool true)], args := [d1, d2, d3, d4] }
  | _ => none }
def modelMoreRow : OpenClaim := { program := "ytnmikopkjdekaaa", sum := "20130bd90d5b6e2b8b5459052472023e1bc00fbdd2b398ef3f3444c5908ad68f", func := "attorney/attorneylaw14.ModelMore", spec := "modelMore", unfollowed := true, recurses := true, apart := false }
def ModelMoreSaid : Prop := modelMoreRow.holds Try.pinned (OpenSpec.ofChange modelMoreSpec)

/-- ITS FALSE NEIGHBOUR: 'it returns false'. Refute it at one input. -/
def modelMoreWrong : ChangeSpec := { name := "modelMore", fn := fun _ => fun
  | [d1, d2, d3, d4] => { results := [.lit (.bool false)], args := [d1, d2, d3, d4] }
  | _ => none }
def ModelMoreWrongFalsely : Prop := modelMoreRow.holds Try.pinned (OpenSpec.ofChange modelMoreWrong)

/- THE SECOND FORM. 'bulk': how many values and letters a reading holds, each counted each time it is reached (what is shared counts as often as it is met; a slice's spare places count too). A statement '..UptoSaid' is the law's where the arguments, and the package variables that the reading takes, are together of bulk at most 1048576: NARROWER than '..Said'. Prove '..Said' where nothing that the law and all that it calls make is longer than what came in: it says more and counts as full. Else prove '..UptoSaid'. A law counts once. -/
mutual
def uptoBulk {H : Type} : DataW H → Nat
  | .lit (.string bytes) => bytes.length + 1
  | .lit _ => 1
  | .nil => 1
  | .ptr d => uptoBulk d + 1
  | .slice elems spare => uptoBulkAll elems + uptoBulkAll spare + 1
  | .agg parts => uptoBulkAll parts + 1
  | .iface _ d => uptoBulk d + 1
  | .map entries => uptoBulkEntries entries + 1
  | .held _ => 1
def uptoBulkAll {H : Type} : List (DataW H) → Nat
  | [] => 0
  | d :: r => uptoBulk d + uptoBulkAll r
def uptoBulkEntries {H : Type} : List (Lit × DataW H) → Nat
  | [] => 0
  | x :: r => uptoBulkEntry x + uptoBulkEntries r
def uptoBulkEntry {H : Type} : Lit × DataW H → Nat
  | (.string bytes, d) => bytes.length + uptoBulk d + 1
  | (_, d) => uptoBulk d + 1
 end
def uptoSmall : (H : Type) → List (DataW H) → Bool := fun _ ds => decide (uptoBulkAll ds ≤ 1048576)
def OpenSpec.upto (s : _root_.Go.ChangeSpec) : _root_.Go.OpenSpec := { _root_.Go.OpenSpec.ofChange s with cond := some uptoSmall }

/-- 'attorneylaw14.ModelTells', WHERE WHAT IT READS IS OF BULK AT MOST 1048576: true; the input reads as it did. -/
def modelTellsUptoRow : OpenClaim := { program := "ytnmikopkjdekaaa", sum := "20130bd90d5b6e2b8b5459052472023e1bc00fbdd2b398ef3f3444c5908ad68f", func := "attorney/attorneylaw14.ModelTells", spec := "modelTells", unfollowed := true, recurses := true, apart := false, narrowed := true }
def ModelTellsUptoSaid : Prop := modelTellsUptoRow.holds Try.pinned (OpenSpec.upto modelTellsSpec)

/-- 'attorneylaw14.ModelHonest', WHERE WHAT IT READS IS OF BULK AT MOST 1048576: true; the input reads as it did. -/
def modelHonestUptoRow : OpenClaim := { program := "ytnmikopkjdekaaa", sum := "20130bd90d5b6e2b8b5459052472023e1bc00fbdd2b398ef3f3444c5908ad68f", func := "attorney/attorneylaw14.ModelHonest", spec := "modelHonest", unfollowed := true, recurses := true, apart := false, narrowed := true }
def ModelHonestUptoSaid : Prop := modelHonestUptoRow.holds Try.pinned (OpenSpec.upto modelHonestSpec)

/-- 'attorneylaw14.ModelSpeaks', WHERE WHAT IT READS IS OF BULK AT MOST 1048576: true; the input reads as it did. -/
def modelSpeaksUptoRow : OpenClaim := { program := "ytnmikopkjdekaaa", sum := "20130bd90d5b6e2b8b5459052472023e1bc00fbdd2b398ef3f3444c5908ad68f", func := "attorney/attorneylaw14.ModelSpeaks", spec := "modelSpeaks", unfollowed := true, recurses := true, apart := false, narrowed := true }
def ModelSpeaksUptoSaid : Prop := modelSpeaksUptoRow.holds Try.pinned (OpenSpec.upto modelSpeaksSpec)

/-- 'attorneylaw14.ModelAround', WHERE WHAT IT READS IS OF BULK AT MOST 1048576: true; the input reads as it did. -/
def modelAroundUptoRow : OpenClaim := { program := "ytnmikopkjdekaaa", sum := "20130bd90d5b6e2b8b5459052472023e1bc00fbdd2b398ef3f3444c5908ad68f", func := "attorney/attorneylaw14.ModelAround", spec := "modelAround", unfollowed := true, recurses := true, apart := false, narrowed := true }
def ModelAroundUptoSaid : Prop := modelAroundUptoRow.holds Try.pinned (OpenSpec.upto modelAroundSpec)

/-- 'attorneylaw14.ModelSets', WHERE WHAT IT READS IS OF BULK AT MOST 1048576: true; the input reads as it did. -/
def modelSetsUptoRow : OpenClaim := { program := "ytnmikopkjdekaaa", sum := "20130bd90d5b6e2b8b5459052472023e1bc00fbdd2b398ef3f3444c5908ad68f", func := "attorney/attorneylaw14.ModelSets", spec := "modelSets", unfollowed := true, recurses := true, apart := false, narrowed := true }
def ModelSetsUptoSaid : Prop := modelSetsUptoRow.holds Try.pinned (OpenSpec.upto modelSetsSpec)

/-- 'attorneylaw14.ModelMore', WHERE WHAT IT READS IS OF BULK AT MOST 1048576: true; the input reads as it did. -/
def modelMoreUptoRow : OpenClaim := { program := "ytnmikopkjdekaaa", sum := "20130bd90d5b6e2b8b5459052472023e1bc00fbdd2b398ef3f3444c5908ad68f", func := "attorney/attorneylaw14.ModelMore", spec := "modelMore", unfollowed := true, recurses := true, apart := false, narrowed := true }
def ModelMoreUptoSaid : Prop := modelMoreUptoRow.holds Try.pinned (OpenSpec.upto modelMoreSpec)

end Rows
end Go.Proofs.Ytnmikopkjdekaaa
