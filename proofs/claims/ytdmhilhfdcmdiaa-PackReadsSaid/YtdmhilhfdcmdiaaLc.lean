/- The calls of PackReads. -/
import Derived.Test.YtdmhilhfdcmdiaaLo
import Derived.Test.YtdmhilhfdcmdiaaLx
import Derived.OpenShut
import Derived.ShutString
namespace Go.Proofs.Ytdmhilhfdcmdiaa
set_option linter.unusedSimpArgs false
set_option linter.unusedVariables false
open Go.RowKit Go.Lib Go.ChangeShapes Go.WideShapes Go.ChangeAt

set_option maxRecDepth 100000 in
theorem packReads_calls {H : Type} {enc : TypeId × Value → H} (W : World) {base base' : Nat} {v u : Value} {d e : DataW H} {p q : List MemPlace} (hu : Value.okWide Try.prog W .any base' 9 u) (h1 : DataW.Trod enc Try.prog W 0 (fun _ => true) true 9 u e q)
    (hv : Value.okWide Try.prog W .any base 22 v) (h : DataW.Trod enc Try.prog W 0 (fun _ => true) true 22 v d p) :
    Calls Try.prog 4 #[u, v] W fun e w' => e = .returned (.bool true) ∧ Below W.heap.size W w' := by
  obtain ⟨l, hl, hr⟩ := open_items hv h
  obtain ⟨s, rfl⟩ := okWide_string Try.underlying9 hu
  exact calls_true (vargs := [.string s, v]) (a_reads s l hl) (.cons (.str s) (.cons hr .nil)) (fun a ha => by simp at ha; rcases ha with rfl | rfl <;> rfl)
end Go.Proofs.Ytdmhilhfdcmdiaa
