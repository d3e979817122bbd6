/- Texts of one proof, laid together: Kq Kv. -/
import Derived.Test.YtcbcnbefaggnhaaMU13
import Derived.Test.YtcbcnbefaggnhaaMU14
import Derived.OpenShut
import Derived.ShutString

/- Opening tokens that came in; the calls of the laws on tokens. -/
namespace Go.Proofs.Ytcbcnbefaggnhaa
set_option linter.unusedSimpArgs false
set_option linter.unusedVariables false
open Go.RowKit Go.Lib Go.ChangeShapes Go.WideShapes Go.ChangeAt

theorem sh_tok {g : List AV} (h : ShOks [.int .i64, .str, .int .i64, .int .i64] g) : ∃ t : Tok, g = tC t := by
  cases h with | cons k0 h =>
  cases h with | cons k1 h =>
  cases h with | cons k2 h =>
  cases h with | cons k3 h =>
  cases h
  cases k0 with | int _ n0 _ =>
  cases k1 with | str s _ =>
  cases k2 with | int _ n2 _ =>
  cases k3 with | int _ n3 _ =>
  exact ⟨⟨n0, s, n2, n3⟩, rfl⟩
set_option maxRecDepth 100000 in
theorem open_toks {H : Type} {enc : TypeId × Value → H} {W : World} {base : Nat} {v : Value} {d : DataW H} {p : List MemPlace} (hv : Value.okWide Try.prog W .any base 53 v) (h : DataW.Trod enc Try.prog W 0 (fun _ => true) true 53 v d p) :
    ∃ l : List Tok, l.length ≤ 9223372036854775807 ∧ Rep (gW W) v (vToks l) := by
  obtain ⟨a, hr, hs⟩ := open_arg1 (n := 8) (sh := .slice [.int .i64, .str, .int .i64, .int .i64]) (by kernel_rfl) hv h (by rw [Try.underlying53]; intro fs hf; cases hf) (by rw [Try.underlying53]; intro k e hf; cases hf)
  cases hs with | slice _ gs hl hg =>
  obtain ⟨l, h1, h2⟩ := sh_list (α := Tok) (q := fun x => tC x) (fun g hg => sh_tok hg) hg
  refine ⟨l, by omega, ?_⟩
  simp only [vToks, toksC]
  rw [h1, ← h2]
  exact hr
set_option maxRecDepth 100000 in
theorem tokenReads_calls {H : Type} {enc : TypeId × Value → H} (W : World) {base0 : Nat} {v0 : Value} {d0 : DataW H} {p0 : List MemPlace} (hv0 : Value.okWide Try.prog W .any base0 9 v0) (h0 : DataW.Trod enc Try.prog W 0 (fun _ => true) true 9 v0 d0 p0) :
    Calls Try.prog 8 #[v0] W fun e w' => e = .returned (.bool true) ∧ Below W.heap.size W w' := by
  obtain ⟨s, rfl⟩ := okWide_string Try.underlying9 hv0
  exact calls_true (vargs := [.string s]) (PCalls.use (p_reads s) rfl) (.cons (.str s) .nil) (fun a ha => by simp at ha; subst ha; rfl)
set_option maxRecDepth 100000 in
theorem tokenWrites_calls {H : Type} {enc : TypeId × Value → H} (W : World) {base0 : Nat} {v0 : Value} {d0 : DataW H} {p0 : List MemPlace} (hv0 : Value.okWide Try.prog W .any base0 53 v0) (h0 : DataW.Trod enc Try.prog W 0 (fun _ => true) true 53 v0 d0 p0) :
    Calls Try.prog 9 #[v0] W fun e w' => e = .returned (.bool true) ∧ Below W.heap.size W w' := by
  obtain ⟨l, hl, hr⟩ := open_toks hv0 h0
  exact calls_true (vargs := [v0]) (PCalls.use (p_writes l hl) rfl) (.cons hr .nil) (fun a ha => by simp at ha; subst ha; rfl)
end Go.Proofs.Ytcbcnbefaggnhaa

/- The calls of TokenBack. -/
namespace Go.Proofs.Ytcbcnbefaggnhaa
set_option linter.unusedSimpArgs false
set_option linter.unusedVariables false
open Go.RowKit Go.Lib Go.ChangeShapes Go.WideShapes Go.ChangeAt

set_option maxRecDepth 100000 in
theorem tokenBack_calls {H : Type} {enc : TypeId × Value → H} (W : World) {base0 base1 : Nat} {v0 v1 : Value} {d0 d1 : DataW H} {p0 p1 : List MemPlace} (hv0 : Value.okWide Try.prog W .any base0 53 v0) (h0 : DataW.Trod enc Try.prog W 0 (fun _ => true) true 53 v0 d0 p0) (hv1 : Value.okWide Try.prog W .any base1 9 v1) (h1 : DataW.Trod enc Try.prog W 0 (fun _ => true) true 9 v1 d1 p1) :
    Calls Try.prog 10 #[v0, v1] W fun e w' => e = .returned (.bool true) ∧ Below W.heap.size W w' := by
  obtain ⟨l, hl, hr⟩ := open_toks hv0 h0
  obtain ⟨s, rfl⟩ := okWide_string Try.underlying9 hv1
  exact calls_true (vargs := [v0, .string s]) (PCalls.use (p_back l s hl) rfl) (.cons hr (.cons (.str s) .nil)) (fun a ha => by simp at ha; rcases ha with rfl | rfl <;> rfl)
end Go.Proofs.Ytcbcnbefaggnhaa
