/- Texts of one proof, laid together: Kq Ep Ez. -/
import Derived.Test.YtmbijfcjfhdnjaaMS14
import Derived.Test.YtmbijfcjfhdnjaaMS15
import Derived.OpenShut
import Derived.ShutString

/- Opening tokens that came in; the calls of the laws on tokens. -/
namespace Go.Proofs.Ytmbijfcjfhdnjaa
set_option linter.unusedSimpArgs false
set_option linter.unusedVariables false
open Go.RowKit Go.Lib Go.ChangeShapes Go.WideShapes Go.ChangeAt

end Go.Proofs.Ytmbijfcjfhdnjaa

/- Opening terms that came in; the calls of ExprParses, ExprReads, ExprWrites. -/
namespace Go.Proofs.Ytmbijfcjfhdnjaa
set_option linter.unusedSimpArgs false
set_option linter.unusedVariables false
open Go.RowKit Go.Lib Go.ChangeShapes Go.WideShapes Go.ChangeAt

theorem sh_trm {g : List AV} (h : ShOks [.int .i64, .int .i64, .str] g) : ∃ t : Trm, g = trC t := by
  cases h with | cons k0 h =>
  cases h with | cons k1 h =>
  cases h with | cons k2 h =>
  cases h
  cases k0 with | int _ n0 _ =>
  cases k1 with | int _ n1 _ =>
  cases k2 with | str s _ =>
  exact ⟨⟨n0, n1, s⟩, rfl⟩
set_option maxRecDepth 100000 in
theorem open_trs {H : Type} {enc : TypeId × Value → H} {W : World} {base : Nat} {v : Value} {d : DataW H} {p : List MemPlace} (hv : Value.okWide Try.prog W .any base 31 v) (h : DataW.Trod enc Try.prog W 0 (fun _ => true) true 31 v d p) :
    ∃ l : List Trm, l.length ≤ 9223372036854775807 ∧ Rep (gW W) v (vTrs l) := by
  obtain ⟨a, hr, hs⟩ := open_arg1 (n := 8) (sh := .slice [.int .i64, .int .i64, .str]) (by kernel_rfl) hv h (by rw [Try.underlying31]; intro fs hf; cases hf) (by rw [Try.underlying31]; intro k e hf; cases hf)
  cases hs with | slice _ gs hl hg =>
  obtain ⟨l, h1, h2⟩ := sh_list (α := Trm) (q := fun x => trC x) (fun g hg => sh_trm hg) hg
  refine ⟨l, by omega, ?_⟩
  simp only [vTrs, trsC]
  rw [h1, ← h2]
  exact hr
end Go.Proofs.Ytmbijfcjfhdnjaa

/- The calls of ExprFew, ExprBack. -/
namespace Go.Proofs.Ytmbijfcjfhdnjaa
set_option linter.unusedSimpArgs false
set_option linter.unusedVariables false
open Go.RowKit Go.Lib Go.ChangeShapes Go.WideShapes Go.ChangeAt

set_option maxRecDepth 100000 in
theorem exprFew_calls {H : Type} {enc : TypeId × Value → H} (W : World) {base0 : Nat} {v0 : Value} {d0 : DataW H} {p0 : List MemPlace} (hv0 : Value.okWide Try.prog W .any base0 9 v0) (h0 : DataW.Trod enc Try.prog W 0 (fun _ => true) true 9 v0 d0 p0) :
    Calls Try.prog 9 #[v0] W fun e w' => e = .returned (.bool true) ∧ Below W.heap.size W w' := by
  obtain ⟨s, rfl⟩ := okWide_string Try.underlying9 hv0
  exact calls_true (vargs := [.string s]) (PCalls.use (p_exfew s) rfl) (.cons (.str s) .nil) (fun a ha => by simp at ha; subst ha; rfl)
set_option maxRecDepth 100000 in
theorem exprBack_calls {H : Type} {enc : TypeId × Value → H} (W : World) {base0 base1 : Nat} {v0 v1 : Value} {d0 d1 : DataW H} {p0 p1 : List MemPlace} (hv0 : Value.okWide Try.prog W .any base0 31 v0) (h0 : DataW.Trod enc Try.prog W 0 (fun _ => true) true 31 v0 d0 p0) (hv1 : Value.okWide Try.prog W .any base1 9 v1) (h1 : DataW.Trod enc Try.prog W 0 (fun _ => true) true 9 v1 d1 p1) :
    Calls Try.prog 8 #[v0, v1] W fun e w' => e = .returned (.bool true) ∧ Below W.heap.size W w' := by
  obtain ⟨x, hx, rx⟩ := open_trs hv0 h0
  obtain ⟨s, rfl⟩ := okWide_string Try.underlying9 hv1
  exact calls_true (vargs := [v0, .string s]) (PCalls.use (p_exback x s hx) rfl) (.cons rx (.cons (.str s) .nil)) (fun a ha => by simp at ha; rcases ha with rfl | rfl <;> rfl)
end Go.Proofs.Ytmbijfcjfhdnjaa
