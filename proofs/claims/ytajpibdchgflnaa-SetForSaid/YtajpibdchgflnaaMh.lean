/- The calls of SetFor. -/
import Derived.Test.YtajpibdchgflnaaTb
import Derived.Test.YtajpibdchgflnaaMo
import Derived.OpenShut
namespace Go.Proofs.Ytajpibdchgflnaa
set_option linter.unusedSimpArgs false
set_option linter.unusedVariables false
open Go.RowKit Go.Lib Go.ChangeShapes Go.WideShapes Go.ChangeAt

set_option maxRecDepth 100000 in
theorem setFor_calls {H : Type} {enc : TypeId × Value → H} (W : World) {base0 base1 : Nat} {v0 v1 : Value} {d0 d1 : DataW H} {p0 p1 : List MemPlace} (hv0 : Value.okWide Try.prog W .any base0 23 v0) (h0 : DataW.Trod enc Try.prog W 0 (fun _ => true) true 23 v0 d0 p0) (hv1 : Value.okWide Try.prog W .any base1 23 v1) (h1 : DataW.Trod enc Try.prog W 0 (fun _ => true) true 23 v1 d1 p1) :
    Calls Try.prog 7 #[v0, v1] W fun e w' => e = .returned (.bool true) ∧ Below W.heap.size W w' := by
  obtain ⟨a, ka, ra⟩ := open_set hv0 h0
  obtain ⟨b, kb, rb⟩ := open_set hv1 h1
  exact calls_true (vargs := [v0, v1]) (a_for a b ka kb) (.cons ra (.cons rb .nil)) (fun a ha => by simp at ha; rcases ha with rfl | rfl <;> rfl)
end Go.Proofs.Ytajpibdchgflnaa
