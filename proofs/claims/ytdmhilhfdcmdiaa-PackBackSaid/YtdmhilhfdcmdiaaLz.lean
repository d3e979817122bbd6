/- The calls of PackBack. -/
import Derived.Test.YtdmhilhfdcmdiaaLy
import Derived.Test.YtdmhilhfdcmdiaaLo
namespace Go.Proofs.Ytdmhilhfdcmdiaa
set_option linter.unusedSimpArgs false
set_option linter.unusedVariables false
open Go.RowKit Go.Lib Go.ChangeShapes Go.WideShapes Go.ChangeAt

set_option maxRecDepth 100000 in
theorem packBack_calls {H : Type} {enc : TypeId × Value → H} (W : World) {base : Nat} {v : Value} {d : DataW H} {p : List MemPlace} (hv : Value.okWide Try.prog W .any base 22 v)
    (h : DataW.Trod enc Try.prog W 0 (fun _ => true) true 22 v d p) :
    Calls Try.prog 5 #[v] W fun e w' => e = .returned (.bool true) ∧ Below W.heap.size W w' := by
  obtain ⟨l, hl, hr⟩ := open_items hv h
  exact calls_true (vargs := [v]) (a_back l hl) (.cons hr .nil) (fun a ha => by simp at ha; subst ha; rfl)
end Go.Proofs.Ytdmhilhfdcmdiaa
