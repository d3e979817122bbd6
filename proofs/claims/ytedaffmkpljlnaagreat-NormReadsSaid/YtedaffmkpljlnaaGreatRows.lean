/-
  No cell of these rows narrows 'for every input' (looked for: loops, veiled, ifaces, maps, wideKeys, modest, calm, conditions, laid).
  DERIVED. THE GIVEN ROWS OF THIS SEAT. 6 by the template 'for every input the law returns true; each argument reads behind the call as it read before'; 0 by the template 'total and deterministic' (their statements: YtedaffmkpljlnaaGreatTotals.lean).
  GIVEN WITH THE SEED: the statements are not yours to turn. If you find one false, say at which input.
  Laid BY PROGRAM, IN A SANDBOX (cutbox-rows.mjs): the forced cells as the released guide's own fill.sh prints them over the translation 11d8fa2f281a5998… (all of the seat's roots in one cut). By AI agents, Wed Nov 11 2026. No macro, syntax, notation, axiom, sorry.
-/
import Derived.Test.YtedaffmkpljlnaaGreatChecked
import GoSem.Claim
import GoSem.ClaimJoined
import GoSem.ClaimMapViews
import Derived.JoinedTies
import Derived.KernelRfl
namespace Go.Proofs.YtedaffmkpljlnaaGreat
/- THE CELL 'sum', in the pinned program and in every row, IS THE sha256 OF THE DUMP (.gsa) THAT YtedaffmkpljlnaaGreatProg.lean LOADS. Nothing in Lean hashes anything: it is a label: what it is worth is what the hold of that sum in a sandbox is worth. -/
noncomputable def Tryz.pinned : Pinned := { name := "ytedaffmkpljlnaagreat", sum := "11d8fa2f281a599867f19e43cbd9ee9c2b6621097c391bd30789b9273e538e8c", checked := Tryz.checked }
namespace Rows
def none {H : Type} : Left H := { results := [], args := [] }

/-- 'attorneylaw06.NormRuns': WHATEVER THE INPUT: true; the input reads as it did. -/
def normRunsSpec : ChangeSpec := { name := "normRuns", fn := fun _ => fun
  | [d1, d2] => { results := [.lit (.bool true)], args := [d1, d2] }
  | _ => none }
def normRunsRow : OpenClaim := { program := "ytedaffmkpljlnaagreat", sum := "11d8fa2f281a599867f19e43cbd9ee9c2b6621097c391bd30789b9273e538e8c", func := "attorney/attorneylaw06.NormRuns", spec := "normRuns", inPlace := ["internal/bytealg.IndexByteString", "internal/bytealg.IndexString", "internal/abi.NoEscape", "internal/bytealg.MakeNoZero"], unfollowed := true, recurses := true, named := ["internal/bytealg.MaxLen"], apart := false }
def NormRunsSaid : Prop := normRunsRow.holds Tryz.pinned (OpenSpec.ofChange normRunsSpec)

/-- ITS FALSE NEIGHBOUR: 'it returns false'. Refute it at one input. -/
def normRunsWrong : ChangeSpec := { name := "normRuns", fn := fun _ => fun
  | [d1, d2] => { results := [.lit (.bool false)], args := [d1, d2] }
  | _ => none }
def NormRunsWrongFalsely : Prop := normRunsRow.holds Tryz.pinned (OpenSpec.ofChange normRunsWrong)

/-- 'attorneylaw06.NormReads': WHATEVER THE INPUT: true; the input reads as it did. -/
def normReadsSpec : ChangeSpec := { name := "normReads", fn := fun _ => fun
  | [d1, d2] => { results := [.lit (.bool true)], args := [d1, d2] }
  | _ => none }
def normReadsRow : OpenClaim := { program := "ytedaffmkpljlnaagreat", sum := "11d8fa2f281a599867f19e43cbd9ee9c2b6621097c391bd30789b9273e538e8c", func := "attorney/attorneylaw06.NormReads", spec := "normReads", inPlace := ["internal/bytealg.IndexByteString", "internal/bytealg.IndexString", "internal/abi.NoEscape", "internal/bytealg.MakeNoZero"], unfollowed := true, recurses := true, named := ["internal/bytealg.MaxLen"], apart := false }
def NormReadsSaid : Prop := normReadsRow.holds Tryz.pinned (OpenSpec.ofChange normReadsSpec)

/-- ITS FALSE NEIGHBOUR: 'it returns false'. Refute it at one input. -/
def normReadsWrong : ChangeSpec := { name := "normReads", fn := fun _ => fun
  | [d1, d2] => { results := [.lit (.bool false)], args := [d1, d2] }
  | _ => none }
def NormReadsWrongFalsely : Prop := normReadsRow.holds Tryz.pinned (OpenSpec.ofChange normReadsWrong)

/-- 'attorneylaw06.NormShows': WHATEVER THE INPUT: true; the input reads as it did. -/
def normShowsSpec : ChangeSpec := { name := "normShows", fn := fun _ => fun
  | [d1, d2] => { results := [.lit (.bool true)], args := [d1, d2] }
  | _ => none }
def normShowsRow : OpenClaim := { program := "ytedaffmkpljlnaagreat", sum := "11d8fa2f281a599867f19e43cbd9ee9c2b6621097c391bd30789b9273e538e8c", func := "attorney/attorneylaw06.NormShows", spec := "normShows", inPlace := ["internal/bytealg.IndexByteString", "internal/bytealg.IndexString", "internal/abi.NoEscape", "internal/bytealg.MakeNoZero"], unfollowed := true, recurses := true, named := ["internal/bytealg.MaxLen"], apart := false }
def NormShowsSaid : Prop := normShowsRow.holds Tryz.pinned (OpenSpec.ofChange normShowsSpec)

/-- ITS FALSE NEIGHBOUR: 'it returns false'. Refute it at one input. -/
def normShowsWrong : ChangeSpec := { name := "normShows", fn := fun _ => fun
  | [d1, d2] => { results := [.lit (.bool false)], args := [d1, d2] }
  | _ => none }
def NormShowsWrongFalsely : Prop := normShowsRow.holds Tryz.pinned (OpenSpec.ofChange normShowsWrong)

/-- 'attorneylaw06.NormBack': WHATEVER THE INPUT: true; the input reads as it did. -/
def normBackSpec : ChangeSpec := { name := "normBack", fn := fun _ => fun
  | [d1, d2, d3] => { results := [.lit (.bool true)], args := [d1, d2, d3] }
  | _ => none }
def normBackRow : OpenClaim := { program := "ytedaffmkpljlnaagreat", sum := "11d8fa2f281a599867f19e43cbd9ee9c2b6621097c391bd30789b9273e538e8c", func := "attorney/attorneylaw06.NormBack", spec := "normBack", inPlace := ["internal/bytealg.IndexByteString", "internal/bytealg.IndexString", "internal/abi.NoEscape", "internal/bytealg.MakeNoZero"], unfollowed := true, recurses := true, named := ["internal/bytealg.MaxLen"], apart := false }
def NormBackSaid : Prop := normBackRow.holds Tryz.pinned (OpenSpec.ofChange normBackSpec)

/-- ITS FALSE NEIGHBOUR: 'it returns false'. Refute it at one input. -/
def normBackWrong : ChangeSpec := { name := "normBack", fn := fun _ => fun
  | [d1, d2, d3] => { results := [.lit (.bool false)], args := [d1, d2, d3] }
  | _ => none }
def NormBackWrongFalsely : Prop := normBackRow.holds Tryz.pinned (OpenSpec.ofChange normBackWrong)

/-- 'attorneylaw06.NormMeans': WHATEVER THE INPUT: true; the input reads as it did. -/
def normMeansSpec : ChangeSpec := { name := "normMeans", fn := fun _ => fun
  | [d1, d2, d3] => { results := [.lit (.bool true)], args := [d1, d2, d3] }
  | _ => none }
def normMeansRow : OpenClaim := { program := "ytedaffmkpljlnaagreat", sum := "11d8fa2f281a599867f19e43cbd9ee9c2b6621097c391bd30789b9273e538e8c", func := "attorney/attorneylaw06.NormMeans", spec := "normMeans", inPlace := ["internal/bytealg.IndexByteString", "internal/bytealg.IndexString", "internal/abi.NoEscape", "internal/bytealg.MakeNoZero"], unfollowed := true, recurses := true, named := ["internal/bytealg.MaxLen"], apart := false }
def NormMeansSaid : Prop := normMeansRow.holds Tryz.pinned (OpenSpec.ofChange normMeansSpec)

/-- ITS FALSE NEIGHBOUR: 'it returns false'. Refute it at one input. -/
def normMeansWrong : ChangeSpec := { name := "normMeans", fn := fun _ => fun
  | [d1, d2, d3] => { results := [.lit (.bool false)], args := [d1, d2, d3] }
  | _ => none }
def NormMeansWrongFalsely : Prop := normMeansRow.holds Tryz.pinned (OpenSpec.ofChange normMeansWrong)

/-- 'attorneylaw06.NormParens': WHATEVER THE INPUT: true; the input reads as it did. -/
def normParensSpec : ChangeSpec := { name := "normParens", fn := fun _ => fun
  | [d1, d2, d3, d4] => { results := [.lit (.bool true)], args := [d1, d2, d3, d4] }
  | _ => none }
def normParensRow : OpenClaim := { program := "ytedaffmkpljlnaagreat", sum := "11d8fa2f281a599867f19e43cbd9ee9c2b6621097c391bd30789b9273e538e8c", func := "attorney/attorneylaw06.NormParens", spec := "normParens", inPlace := ["internal/bytealg.IndexByteString", "internal/bytealg.IndexString", "internal/abi.NoEscape", "internal/bytealg.MakeNoZero"], unfollowed := true, recurses := true, named := ["internal/bytealg.MaxLen"], apart := false }
def NormParensSaid : Prop := normParensRow.holds Tryz.pinned (OpenSpec.ofChange normParensSpec)

/-- ITS FALSE NEIGHBOUR: 'it returns false'. Refute it at one input. -/
def normParensWrong : ChangeSpec := { name := "normParens", fn := fun _ => fun
  | [d1, d2, d3, d4] => { results := [.lit (.bool false)], args := [d1, d2, d3, d4] }
  | _ => none }
def NormParensWrongFalsely : Prop := normParensRow.holds Tryz.pinned (OpenSpec.ofChange normParensWrong)

/- THE SECOND FORM. 'bulk': how many values and letters a reading holds, each counted each time it is reached (what is shared counts as often as it is met; a slice's spare places count too). A statement '..UptoSaid' is the law's where the arguments, and the package variables that the reading takes, are together of bulk at most 1048576: NARROWER than '..Said'. Prove '..Said' where nothing that the law and all that it calls make is longer than what came in: it says more and counts as full. Else prove '..UptoSaid'. A law counts once. -/
mutual
def uptoBulk {H : Type} : DataW H → Nat
  | .lit (.string bytes) => bytes.length + 1
  | .lit _ => 1
  | .nil => 1
  | .ptr d => uptoBulk d + 1
  | .slice elems spare => uptoBulkAll elems + uptoBulkAll spare + 1
  | .agg parts => uptoBulkAll parts + 1
  | .iface _ d => uptoBulk d + 1
  | .map entries => uptoBulkEntries entries + 1
  | .held _ => 1
def uptoBulkAll {H : Type} : List (DataW H) → Nat
  | [] => 0
  | d :: r => uptoBulk d + uptoBulkAll r
def uptoBulkEntries {H : Type} : List (Lit × DataW H) → Nat
  | [] => 0
  | x :: r => uptoBulkEntry x + uptoBulkEntries r
def uptoBulkEntry {H : Type} : Lit × DataW H → Nat
  | (.string bytes, d) => bytes.length + uptoBulk d + 1
  | (_, d) => uptoBulk d + 1
 end
def uptoSmall : (H : Type) → List (DataW H) → Bool := fun _ ds => decide (uptoBulkAll ds ≤ 1048576)
def OpenSpec.upto (s : _root_.Go.ChangeSpec) : _root_.Go.OpenSpec := { _root_.Go.OpenSpec.ofChange s with cond := some uptoSmall }

/-- 'attorneylaw06.NormRuns', WHERE WHAT IT READS IS OF BULK AT MOST 1048576: true; the input reads as it did. -/
def normRunsUptoRow : OpenClaim := { program := "ytedaffmkpljlnaagreat", sum := "11d8fa2f281a599867f19e43cbd9ee9c2b6621097c391bd30789b9273e538e8c", func := "attorney/attorneylaw06.NormRuns", spec := "normRuns", inPlace := ["internal/bytealg.IndexByteString", "internal/bytealg.IndexString", "internal/abi.NoEscape", "internal/bytealg.MakeNoZero"], unfollowed := true, recurses := true, named := ["internal/bytealg.MaxLen"], apart := false, narrowed := true }
def NormRunsUptoSaid : Prop := normRunsUptoRow.holds Tryz.pinned (OpenSpec.upto normRunsSpec)

/-- 'attorneylaw06.NormReads', WHERE WHAT IT READS IS OF BULK AT MOST 1048576: true; the input reads as it did. -/
def normReadsUptoRow : OpenClaim := { program := "ytedaffmkpljlnaagreat", sum := "11d8fa2f281a599867f19e43cbd9ee9c2b6621097c391bd30789b9273e538e8c", func := "attorney/attorneylaw06.NormReads", spec := "normReads", inPlace := ["internal/bytealg.IndexByteString", "internal/bytealg.IndexString", "internal/abi.NoEscape", "internal/bytealg.MakeNoZero"], unfollowed := true, recurses := true, named := ["internal/bytealg.MaxLen"], apart := false, narrowed := true }
def NormReadsUptoSaid : Prop := normReadsUptoRow.holds Tryz.pinned (OpenSpec.upto normReadsSpec)

/-- 'attorneylaw06.NormShows', WHERE WHAT IT READS IS OF BULK AT MOST 1048576: true; the input reads as it did. -/
def normShowsUptoRow : OpenClaim := { program := "ytedaffmkpljlnaagreat", sum := "11d8fa2f281a599867f19e43cbd9ee9c2b6621097c391bd30789b9273e538e8c", func := "attorney/attorneylaw06.NormShows", spec := "normShows", inPlace := ["internal/bytealg.IndexByteString", "internal/bytealg.IndexString", "internal/abi.NoEscape", "internal/bytealg.MakeNoZero"], unfollowed := true, recurses := true, named := ["internal/bytealg.MaxLen"], apart := false, narrowed := true }
def NormShowsUptoSaid : Prop := normShowsUptoRow.holds Tryz.pinned (OpenSpec.upto normShowsSpec)

/-- 'attorneylaw06.NormBack', WHERE WHAT IT READS IS OF BULK AT MOST 1048576: true; the input reads as it did. -/
def normBackUptoRow : OpenClaim := { program := "ytedaffmkpljlnaagreat", sum := "11d8fa2f281a599867f19e43cbd9ee9c2b6621097c391bd30789b9273e538e8c", func := "attorney/attorneylaw06.NormBack", spec := "normBack", inPlace := ["internal/bytealg.IndexByteString", "internal/bytealg.IndexString", "internal/abi.NoEscape", "internal/bytealg.MakeNoZero"], unfollowed := true, recurses := true, named := ["internal/bytealg.MaxLen"], apart := false, narrowed := true }
def NormBackUptoSaid : Prop := normBackUptoRow.holds Tryz.pinned (OpenSpec.upto normBackSpec)

/-- 'attorneylaw06.NormMeans', WHERE WHAT IT READS IS OF BULK AT MOST 1048576: true; the input reads as it did. -/
def normMeansUptoRow : OpenClaim := { program := "ytedaffmkpljlnaagreat", sum := "11d8fa2f281a599867f19e43cbd9ee9c2b6621097c391bd30789b9273e538e8c", func := "attorney/attorneylaw06.NormMeans", spec := "normMeans", inPlace := ["internal/bytealg.IndexByteString", "internal/bytealg.IndexString", "internal/abi.NoEscape", "internal/bytealg.MakeNoZero"], unfollowed := true, recurses := true, named := ["internal/bytealg.MaxLen"], apart := false, narrowed := true }
def NormMeansUptoSaid : Prop := normMeansUptoRow.holds Tryz.pinned (OpenSpec.upto normMeansSpec)

/-- 'attorneylaw06.NormParens', WHERE WHAT IT READS IS OF BULK AT MOST 1048576: true; the input reads as it did. -/
def normParensUptoRow : OpenClaim := { program := "ytedaffmkpljlnaagreat", sum := "11d8fa2f281a599867f19e43cbd9ee9c2b6621097c391bd30789b9273e538e8c", func := "attorney/attorneylaw06.NormParens", spec := "normParens", inPlace := ["internal/bytealg.IndexByteString", "internal/bytealg.IndexString", "internal/abi.NoEscape", "internal/bytealg.MakeNoZero"], unfollowed := true, recurses := true, named := ["internal/bytealg.MaxLen"], apart := false, narrowed := true }
def NormParensUptoSaid : Prop := normParensUptoRow.holds Tryz.pinned (OpenSpec.upto normParensSpec)

end Rows
end Go.Proofs.YtedaffmkpljlnaaGreat
