/- Texts of one proof, laid together: Vf. -/
import Derived.Test.YtpiofcjkekpboaaMA21
import Derived.OpenShut
import Derived.ShutString

/- The call of SetMakes. -/
namespace Go.Proofs.Ytpiofcjkekpboaa
set_option linter.unusedSimpArgs false
set_option linter.unusedVariables false
open Go.RowKit Go.Lib Go.ChangeShapes Go.WideShapes Go.ChangeAt

theorem chk_atom03 : chkSh Try.prog 2 32 [.int .u16] = true := by kernel_rfl
set_option maxRecDepth 100000 in
theorem open_atom03 {H : Type} {enc : TypeId × Value → H} {W : World} {base : Nat} {v : Value} {d : DataW H} {p : List MemPlace} (hv : Value.okWide Try.prog W .any base 32 v) (h : DataW.Trod enc Try.prog W 0 (fun _ => true) true 32 v d p) :
    ∃ r : Nat, r < 65536 ∧ Rep (gW W) v (.int .u16 r) := by
  obtain ⟨a, hr, hs⟩ := open_arg1 (n := 2) (sh := .int .u16) chk_atom03 hv h (by rw [Try.underlying32]; intro fs hf; cases hf) (by rw [Try.underlying32]; intro k e hf; cases hf)
  cases hs with | int _ n0 w0 =>
  simp only [Lit.wf, Bool.and_eq_true, decide_eq_true_eq] at w0
  have h1 : IntKind.u16.min = 0 := rfl
  have h2 : IntKind.u16.max = 65535 := rfl
  refine ⟨n0.toNat, by omega, ?_⟩
  have e : ((n0.toNat : Nat) : Int) = n0 := by omega
  rw [e]
  exact hr
set_option maxRecDepth 100000 in
theorem setMakes_calls {H : Type} {enc : TypeId × Value → H} (W : World) {base0 base1 base2 : Nat} {v0 v1 v2 : Value} {d0 d1 d2 : DataW H} {p0 p1 p2 : List MemPlace} (hv0 : Value.okWide Try.prog W .any base0 56 v0) (h0 : DataW.Trod enc Try.prog W 0 (fun _ => true) true 56 v0 d0 p0)
    (hv1 : Value.okWide Try.prog W .any base1 56 v1) (h1 : DataW.Trod enc Try.prog W 0 (fun _ => true) true 56 v1 d1 p1) (hv2 : Value.okWide Try.prog W .any base2 32 v2) (h2 : DataW.Trod enc Try.prog W 0 (fun _ => true) true 32 v2 d2 p2) :
    Calls Try.prog 5 #[v0, v1, v2] W fun e w' => e = .returned (.bool true) ∧ Below W.heap.size W w' := by
  obtain ⟨a, ka, ra⟩ := open_set hv0 h0
  obtain ⟨b, kb, rb⟩ := open_set hv1 h1
  obtain ⟨r, hr, rc⟩ := open_atom03 hv2 h2
  exact calls_true (vargs := [v0, v1, v2]) (a_makes a b r hr ka kb) (.cons ra (.cons rb (.cons rc .nil))) (fun a ha => by simp at ha; rcases ha with rfl | rfl | rfl <;> rfl)
end Go.Proofs.Ytpiofcjkekpboaa
