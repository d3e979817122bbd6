/- The calls of SetOrder. -/
import Derived.Test.YtajpibdchgflnaaTc
import Derived.Test.YtajpibdchgflnaaMo
import Derived.OpenShut
namespace Go.Proofs.Ytajpibdchgflnaa
set_option linter.unusedSimpArgs false
set_option linter.unusedVariables false
open Go.RowKit Go.Lib Go.ChangeShapes Go.WideShapes Go.ChangeAt

theorem chk_u8 : chkSh Try.prog 3 5 [.int .u8] = true := by kernel_rfl
set_option maxRecDepth 100000 in
theorem setOrder_calls {H : Type} {enc : TypeId × Value → H} (W : World) {base0 base1 : Nat} {v0 v1 : Value} {d0 d1 : DataW H} {p0 p1 : List MemPlace} (hv0 : Value.okWide Try.prog W .any base0 23 v0) (h0 : DataW.Trod enc Try.prog W 0 (fun _ => true) true 23 v0 d0 p0)
    (hv1 : Value.okWide Try.prog W .any base1 5 v1) (h1 : DataW.Trod enc Try.prog W 0 (fun _ => true) true 5 v1 d1 p1) :
    Calls Try.prog 8 #[v0, v1] W fun e w' => e = .returned (.bool true) ∧ Below W.heap.size W w' := by
  obtain ⟨l, kl, rl⟩ := open_set hv0 h0
  obtain ⟨x, rx, hx⟩ := open_arg1 (n := 3) (sh := .int .u8) chk_u8 hv1 h1 (by rw [Try.underlying5]; intro fs hf; cases hf) (by rw [Try.underlying5]; intro k e hf; cases hf)
  cases hx with
  | int k n hw =>
    have hn : 0 ≤ n ∧ n < 256 := by
      simp only [Lit.wf, Bool.and_eq_true, decide_eq_true_eq] at hw
      have h1 : IntKind.u8.min = 0 := rfl
      have h2 : IntKind.u8.max = 255 := rfl
      omega
    obtain ⟨t, rfl⟩ : ∃ t : Nat, n = t := ⟨n.toNat, by omega⟩
    exact calls_true (vargs := [v0, v1]) (a_order l t kl (by omega)) (.cons rl (.cons rx .nil)) (fun a ha => by simp at ha; rcases ha with rfl | rfl <;> rfl)
end Go.Proofs.Ytajpibdchgflnaa
