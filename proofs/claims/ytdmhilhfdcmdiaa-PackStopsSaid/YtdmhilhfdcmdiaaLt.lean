/- The calls of PackStops. -/
import Derived.Test.YtdmhilhfdcmdiaaLo
import Derived.Test.YtdmhilhfdcmdiaaLs
import Derived.OpenShut
import Derived.ShutString
namespace Go.Proofs.Ytdmhilhfdcmdiaa
set_option linter.unusedSimpArgs false
set_option linter.unusedVariables false
open Go.RowKit Go.Lib Go.ChangeShapes Go.WideShapes Go.ChangeAt

set_option maxRecDepth 100000 in
theorem packStops_calls {H : Type} {enc : TypeId × Value → H} (W : World) {base base' : Nat} {v u : Value} {d e : DataW H} {p q : List MemPlace} (hv : Value.okWide Try.prog W .any base 22 v)
    (h : DataW.Trod enc Try.prog W 0 (fun _ => true) true 22 v d p) (hu : Value.okWide Try.prog W .any base' 9 u) (h1 : DataW.Trod enc Try.prog W 0 (fun _ => true) true 9 u e q) :
    Calls Try.prog 7 #[v, u] W fun e w' => e = .returned (.bool true) ∧ Below W.heap.size W w' := by
  obtain ⟨l, hl, hr⟩ := open_items hv h
  obtain ⟨s, rfl⟩ := okWide_string Try.underlying9 hu
  exact calls_true (vargs := [v, .string s]) (a_stops l s hl) (.cons hr (.cons (.str s) .nil)) (fun a ha => by simp at ha; rcases ha with rfl | rfl <;> rfl)
end Go.Proofs.Ytdmhilhfdcmdiaa
