/- Texts of one proof, laid together: Yl Yr. -/
import Derived.Test.YtpjlkefadnbgdaaGreatMX20
import Derived.Test.YtpjlkefadnbgdaaGreatMX17
import Derived.OpenShut
import Derived.ShutString

/- Opening a message that came in; the calls of the laws on messages. -/
namespace Go.Proofs.YtpjlkefadnbgdaaGreat
set_option linter.unusedSimpArgs false
set_option linter.unusedVariables false
open Go.RowKit Go.Lib Go.ChangeShapes Go.WideShapes Go.ChangeAt

end Go.Proofs.YtpjlkefadnbgdaaGreat

/- The calls of two laws more on messages. -/
namespace Go.Proofs.YtpjlkefadnbgdaaGreat
set_option linter.unusedSimpArgs false
set_option linter.unusedVariables false
open Go.RowKit Go.Lib Go.ChangeShapes Go.WideShapes Go.ChangeAt

set_option maxRecDepth 100000 in
theorem letterReads_calls {H : Type} {enc : TypeId × Value → H} (W : World) {base0 : Nat} {v0 : Value} {d0 : DataW H} {p0 : List MemPlace} (hv0 : Value.okWide Tryz.prog W .any base0 9 v0) (h0 : DataW.Trod enc Tryz.prog W 0 (fun _ => true) true 9 v0 d0 p0) :
    Calls Tryz.prog 4 #[v0] W fun e w' => e = .returned (.bool true) ∧ Below W.heap.size W w' := by
  obtain ⟨s, rfl⟩ := okWide_string Tryz.underlying9 hv0
  exact calls_true (vargs := [.string s]) (a_lreads s) (.cons (.str s) .nil) (fun a ha => by simp at ha; subst ha; rfl)
end Go.Proofs.YtpjlkefadnbgdaaGreat
