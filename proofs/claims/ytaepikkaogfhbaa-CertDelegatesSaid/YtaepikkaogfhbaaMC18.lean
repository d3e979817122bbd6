/- Texts of one proof, laid together: Cp Cs. -/
import Derived.Test.YtaepikkaogfhbaaMC17
import Derived.Test.YtaepikkaogfhbaaMC16
import Derived.OpenShut
import Derived.ShutString

/- Opening a certificate that came in; the calls of the laws on certificates. -/
namespace Go.Proofs.Ytaepikkaogfhbaa
set_option linter.unusedSimpArgs false
set_option linter.unusedVariables false
open Go.RowKit Go.Lib Go.ChangeShapes Go.WideShapes Go.ChangeAt

theorem chk_cert : chkSh Try.prog 4 56 [.int .i64, .int .u16, .str, .slice [.str], .int .i64, .int .i64, .int .i64] = true := by kernel_rfl
theorem wf_u16 {n : Int} (h : (Lit.int .u16 n).wf = true) : 0 ≤ n ∧ n < 65536 := by
  simp only [Lit.wf, Bool.and_eq_true, decide_eq_true_eq] at h
  have h1 : IntKind.u16.min = 0 := rfl
  have h2 : IntKind.u16.max = 65535 := rfl
  omega
theorem wf_i64 {n : Int} (h : (Lit.int .i64 n).wf = true) : -9223372036854775808 ≤ n ∧ n ≤ 9223372036854775807 := by
  simp only [Lit.wf, Bool.and_eq_true, decide_eq_true_eq] at h
  have h1 : IntKind.i64.min = -9223372036854775808 := rfl
  have h2 : IntKind.i64.max = 9223372036854775807 := rfl
  omega
set_option maxRecDepth 100000 in
theorem open_i64 {H : Type} {enc : TypeId × Value → H} {W : World} {base : Nat} {v : Value} {d : DataW H} {p : List MemPlace} (hv : Value.okWide Try.prog W .any base 2 v) (h : DataW.Trod enc Try.prog W 0 (fun _ => true) true 2 v d p) :
    ∃ n : Int, v = .int .i64 n ∧ -9223372036854775808 ≤ n ∧ n ≤ 9223372036854775807 := by
  obtain ⟨a, hr, hs⟩ := open_arg1 (n := 3) (sh := .int .i64) (by kernel_rfl) hv h (by rw [Try.underlying2]; intro fs hf; cases hf) (by rw [Try.underlying2]; intro k e hf; cases hf)
  cases hs with | int _ n w =>
  cases hr
  exact ⟨n, rfl, wf_i64 w⟩
set_option maxRecDepth 100000 in
theorem open_u16 {H : Type} {enc : TypeId × Value → H} {W : World} {base : Nat} {v : Value} {d : DataW H} {p : List MemPlace} (hv : Value.okWide Try.prog W .any base 54 v) (h : DataW.Trod enc Try.prog W 0 (fun _ => true) true 54 v d p) :
    ∃ n : Nat, v = .int .u16 n ∧ n < 65536 := by
  obtain ⟨a, hr, hs⟩ := open_arg1 (n := 3) (sh := .int .u16) (by kernel_rfl) hv h (by rw [Try.underlying54]; intro fs hf; cases hf) (by rw [Try.underlying54]; intro k e hf; cases hf)
  cases hs with | int _ n w =>
  cases hr
  have := wf_u16 w
  exact ⟨n.toNat, by congr 1; omega, by omega⟩
theorem plain_vC (c : Crt) : plain (vC c) = true := rfl
set_option maxRecDepth 100000 in
theorem open_cert {H : Type} {enc : TypeId × Value → H} {W : World} {base : Nat} {v : Value} {d : DataW H} {p : List MemPlace} (hv : Value.okWide Try.prog W .any base 56 v) (h : DataW.Trod enc Try.prog W 0 (fun _ => true) true 56 v d p) :
    ∃ c : Crt, c.signer < 65536 ∧ c.words.length ≤ 9223372036854775807 ∧ Rep (gW W) v (vC c) := by
  obtain ⟨zs, hr, hs⟩ := open_argS chk_cert Try.underlying56 hv h
  cases hs with | cons k0 hs =>
  cases hs with | cons k1 hs =>
  cases hs with | cons k2 hs =>
  cases hs with | cons k3 hs =>
  cases hs with | cons k4 hs =>
  cases hs with | cons k5 hs =>
  cases hs with | cons k6 hs =>
  cases hs
  cases k0 with | int _ n0 w0 =>
  cases k1 with | int _ n1 w1 =>
  cases k2 with | str s2 w2 =>
  obtain ⟨l, hl, rfl, _⟩ := sh_strs k3
  cases k4 with | int _ n4 w4 =>
  cases k5 with | int _ n5 w5 =>
  cases k6 with | int _ n6 w6 =>
  have hw := wf_u16 w1
  refine ⟨⟨n0, n1.toNat, s2, l, n4, n5, n6⟩, by show n1.toNat < 65536; omega, hl, ?_⟩
  have e : ((n1.toNat : Nat) : Int) = n1 := by omega
  simp only [vC, cC, e]
  exact hr
set_option maxRecDepth 100000 in
theorem certReads_calls {H : Type} {enc : TypeId × Value → H} (W : World) {base0 : Nat} {v0 : Value} {d0 : DataW H} {p0 : List MemPlace} (hv0 : Value.okWide Try.prog W .any base0 9 v0) (h0 : DataW.Trod enc Try.prog W 0 (fun _ => true) true 9 v0 d0 p0) :
    Calls Try.prog 9 #[v0] W fun e w' => e = .returned (.bool true) ∧ Below W.heap.size W w' := by
  obtain ⟨s, rfl⟩ := okWide_string Try.underlying9 hv0
  exact calls_true (vargs := [.string s]) (a_creads s) (.cons (.str s) .nil) (fun a ha => by simp at ha; subst ha; rfl)
set_option maxRecDepth 100000 in
theorem certHolds_calls {H : Type} {enc : TypeId × Value → H} (W : World) {base0 base1 : Nat} {v0 v1 : Value} {d0 d1 : DataW H} {p0 p1 : List MemPlace} (hv0 : Value.okWide Try.prog W .any base0 56 v0) (h0 : DataW.Trod enc Try.prog W 0 (fun _ => true) true 56 v0 d0 p0) (hv1 : Value.okWide Try.prog W .any base1 2 v1) (h1 : DataW.Trod enc Try.prog W 0 (fun _ => true) true 2 v1 d1 p1) :
    Calls Try.prog 14 #[v0, v1] W fun e w' => e = .returned (.bool true) ∧ Below W.heap.size W w' := by
  obtain ⟨c, hg, hw, hr⟩ := open_cert hv0 h0
  obtain ⟨t, rfl, ht⟩ := open_i64 hv1 h1
  exact calls_true (vargs := [v0, .int .i64 t]) (a_cholds c t hg hw ht) (.cons hr (.cons (.int _ _) .nil)) (fun a ha => by simp at ha; rcases ha with rfl | rfl <;> rfl)
set_option maxRecDepth 100000 in
theorem certSame_calls {H : Type} {enc : TypeId × Value → H} (W : World) {base0 base1 : Nat} {v0 v1 : Value} {d0 d1 : DataW H} {p0 p1 : List MemPlace} (hv0 : Value.okWide Try.prog W .any base0 56 v0) (h0 : DataW.Trod enc Try.prog W 0 (fun _ => true) true 56 v0 d0 p0) (hv1 : Value.okWide Try.prog W .any base1 56 v1) (h1 : DataW.Trod enc Try.prog W 0 (fun _ => true) true 56 v1 d1 p1) :
    Calls Try.prog 13 #[v0, v1] W fun e w' => e = .returned (.bool true) ∧ Below W.heap.size W w' := by
  obtain ⟨a, hga, hwa, ra⟩ := open_cert hv0 h0
  obtain ⟨b, hgb, hwb, rb⟩ := open_cert hv1 h1
  exact calls_true (vargs := [v0, v1]) (a_csame a b hga hgb hwa hwb) (.cons ra (.cons rb .nil)) (fun a ha => by simp at ha; rcases ha with rfl | rfl <;> rfl)
set_option maxRecDepth 100000 in
theorem certBack_calls {H : Type} {enc : TypeId × Value → H} (W : World) {base0 base1 : Nat} {v0 v1 : Value} {d0 d1 : DataW H} {p0 p1 : List MemPlace} (hv0 : Value.okWide Try.prog W .any base0 56 v0) (h0 : DataW.Trod enc Try.prog W 0 (fun _ => true) true 56 v0 d0 p0) (hv1 : Value.okWide Try.prog W .any base1 9 v1) (h1 : DataW.Trod enc Try.prog W 0 (fun _ => true) true 9 v1 d1 p1) :
    Calls Try.prog 10 #[v0, v1] W fun e w' => e = .returned (.bool true) ∧ Below W.heap.size W w' := by
  obtain ⟨c, hg, hw, hr⟩ := open_cert hv0 h0
  obtain ⟨s, rfl⟩ := okWide_string Try.underlying9 hv1
  exact calls_true (vargs := [v0, .string s]) (a_cback c s hg hw) (.cons hr (.cons (.str s) .nil)) (fun a ha => by simp at ha; rcases ha with rfl | rfl <;> rfl)
end Go.Proofs.Ytaepikkaogfhbaa

/- The calls of three laws more on certificates. -/
namespace Go.Proofs.Ytaepikkaogfhbaa
set_option linter.unusedSimpArgs false
set_option linter.unusedVariables false
open Go.RowKit Go.Lib Go.ChangeShapes Go.WideShapes Go.ChangeAt

set_option maxRecDepth 100000 in
theorem certShort_calls {H : Type} {enc : TypeId × Value → H} (W : World) {base0 : Nat} {v0 : Value} {d0 : DataW H} {p0 : List MemPlace} (hv0 : Value.okWide Try.prog W .any base0 56 v0) (h0 : DataW.Trod enc Try.prog W 0 (fun _ => true) true 56 v0 d0 p0) :
    Calls Try.prog 11 #[v0] W fun e w' => e = .returned (.bool true) ∧ Below W.heap.size W w' := by
  obtain ⟨c, hg, hw, hr⟩ := open_cert hv0 h0
  exact calls_true (vargs := [v0]) (a_cshort c hg hw) (.cons hr .nil) (fun a ha => by simp at ha; subst ha; rfl)
set_option maxRecDepth 100000 in
theorem certTells_calls {H : Type} {enc : TypeId × Value → H} (W : World) {base0 base1 : Nat} {v0 v1 : Value} {d0 d1 : DataW H} {p0 p1 : List MemPlace} (hv0 : Value.okWide Try.prog W .any base0 56 v0) (h0 : DataW.Trod enc Try.prog W 0 (fun _ => true) true 56 v0 d0 p0) (hv1 : Value.okWide Try.prog W .any base1 2 v1) (h1 : DataW.Trod enc Try.prog W 0 (fun _ => true) true 2 v1 d1 p1) :
    Calls Try.prog 8 #[v0, v1] W fun e w' => e = .returned (.bool true) ∧ Below W.heap.size W w' := by
  obtain ⟨c, hg, hw, hr⟩ := open_cert hv0 h0
  obtain ⟨t, rfl, ht⟩ := open_i64 hv1 h1
  exact calls_true (vargs := [v0, .int .i64 t]) (a_ctells c t hg hw) (.cons hr (.cons (.int _ _) .nil)) (fun a ha => by simp at ha; rcases ha with rfl | rfl <;> rfl)
set_option maxRecDepth 100000 in
theorem certDelegates_calls {H : Type} {enc : TypeId × Value → H} (W : World) {base0 base1 base2 base3 base4 : Nat} {v0 v1 v2 v3 v4 : Value} {d0 d1 d2 d3 d4 : DataW H} {p0 p1 p2 p3 p4 : List MemPlace} (hv0 : Value.okWide Try.prog W .any base0 54 v0) (h0 : DataW.Trod enc Try.prog W 0 (fun _ => true) true 54 v0 d0 p0) (hv1 : Value.okWide Try.prog W .any base1 44 v1) (h1 : DataW.Trod enc Try.prog W 0 (fun _ => true) true 44 v1 d1 p1) (hv2 : Value.okWide Try.prog W .any base2 54 v2) (h2 : DataW.Trod enc Try.prog W 0 (fun _ => true) true 54 v2 d2 p2) (hv3 : Value.okWide Try.prog W .any base3 2 v3) (h3 : DataW.Trod enc Try.prog W 0 (fun _ => true) true 2 v3 d3 p3) (hv4 : Value.okWide Try.prog W .any base4 2 v4) (h4 : DataW.Trod enc Try.prog W 0 (fun _ => true) true 2 v4 d4 p4) :
    Calls Try.prog 12 #[v0, v1, v2, v3, v4] W fun e w' => e = .returned (.bool true) ∧ Below W.heap.size W w' := by
  obtain ⟨b, rfl, hb⟩ := open_u16 hv0 h0
  obtain ⟨w, rfl⟩ := okWide_string Try.underlying44 hv1
  obtain ⟨g, rfl, hg⟩ := open_u16 hv2 h2
  obtain ⟨f, rfl, hf⟩ := open_i64 hv3 h3
  obtain ⟨t, rfl, ht⟩ := open_i64 hv4 h4
  exact calls_true (vargs := [.int .u16 b, .string w, .int .u16 g, .int .i64 f, .int .i64 t]) (a_cdel b w g f t hb hg) (.cons (.int _ _) (.cons (.str _) (.cons (.int _ _) (.cons (.int _ _) (.cons (.int _ _) .nil))))) (fun a ha => by simp at ha; rcases ha with rfl | rfl | rfl | rfl | rfl <;> rfl)
end Go.Proofs.Ytaepikkaogfhbaa
