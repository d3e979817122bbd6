/- Texts of one proof, laid together: Yl Yt. -/
import Derived.Test.YtpjlkefadnbgdaaMW17
import Derived.Test.YtpjlkefadnbgdaaMW16
import Derived.OpenShut
import Derived.ShutString

/- Opening a message that came in; the calls of the laws on messages. -/
namespace Go.Proofs.Ytpjlkefadnbgdaa
set_option linter.unusedSimpArgs false
set_option linter.unusedVariables false
open Go.RowKit Go.Lib Go.ChangeShapes Go.WideShapes Go.ChangeAt

theorem chk_msg : chkSh Try.prog 8 34 [.int .i64, .int .u16, .int .i64, .int .i64, .int .i64, .int .i64, .int .i64, .slice [.str], .int .i64, .int .i64, .str, .slice [.int .i64, .int .u16, .str, .slice [.str], .int .i64, .int .i64, .int .i64]] = true := by kernel_rfl
theorem wf_u16 {n : Int} (h : (Lit.int .u16 n).wf = true) : 0 ≤ n ∧ n < 65536 := by
  simp only [Lit.wf, Bool.and_eq_true, decide_eq_true_eq] at h
  have h1 : IntKind.u16.min = 0 := rfl
  have h2 : IntKind.u16.max = 65535 := rfl
  omega
theorem sh_crt {g : List AV} (h : ShOks [.int .i64, .int .u16, .str, .slice [.str], .int .i64, .int .i64, .int .i64] g) : ∃ c : {c : Crt // c.signer < 65536}, g = cC c.1 := by
  cases h with | cons k0 h =>
  cases h with | cons k1 h =>
  cases h with | cons k2 h =>
  cases h with | cons k3 h =>
  cases h with | cons k4 h =>
  cases h with | cons k5 h =>
  cases h with | cons k6 h =>
  cases h
  cases k0 with | int _ n0 _ =>
  cases k1 with | int _ n1 w1 =>
  cases k2 with | str s2 _ =>
  cases k4 with | int _ n4 _ =>
  cases k5 with | int _ n5 _ =>
  cases k6 with | int _ n6 _ =>
  obtain ⟨l, hl, rfl, _⟩ := sh_strs k3
  have hw := wf_u16 w1
  refine ⟨⟨⟨n0, n1.toNat, s2, l, n4, n5, n6⟩, by show n1.toNat < 65536; omega⟩, ?_⟩
  have e : ((n1.toNat : Nat) : Int) = n1 := by omega
  simp only [cC, e]
theorem flat_map1 {α β γ : Type} (l : List α) (f : α → β) (g : β → List γ) : l.flatMap (fun x => g (f x)) = (l.map f).flatMap g := by rw [List.flatMap_map]
set_option maxRecDepth 100000 in
theorem open_msg {H : Type} {enc : TypeId × Value → H} {W : World} {base : Nat} {v : Value} {d : DataW H} {p : List MemPlace} (hv : Value.okWide Try.prog W .any base 34 v) (h : DataW.Trod enc Try.prog W 0 (fun _ => true) true 34 v d p) :
    ∃ m : Lm, m.chan < 65536 ∧ (∀ c ∈ m.certs, c.signer < 65536) ∧ Rep (gW W) v (vM m) := by
  obtain ⟨zs, hr, hs⟩ := open_argS chk_msg Try.underlying34 hv h
  cases hs with | cons k0 hs =>
  cases hs with | cons k1 hs =>
  cases hs with | cons k2 hs =>
  cases hs with | cons k3 hs =>
  cases hs with | cons k4 hs =>
  cases hs with | cons k5 hs =>
  cases hs with | cons k6 hs =>
  cases hs with | cons k7 hs =>
  cases hs with | cons k8 hs =>
  cases hs with | cons k9 hs =>
  cases hs with | cons k10 hs =>
  cases hs with | cons k11 hs =>
  cases hs
  cases k0 with | int _ n0 _ =>
  cases k1 with | int _ n1 w1 =>
  cases k2 with | int _ n2 _ =>
  cases k3 with | int _ n3 _ =>
  cases k4 with | int _ n4 _ =>
  cases k5 with | int _ n5 _ =>
  cases k6 with | int _ n6 _ =>
  obtain ⟨w7, hl7, rfl, _⟩ := sh_strs k7
  cases k8 with | int _ n8 _ =>
  cases k9 with | int _ n9 _ =>
  cases k10 with | str s10 _ =>
  cases k11 with | slice _ gs hl hg =>
  obtain ⟨l, h1, h2⟩ := sh_list (α := {c : Crt // c.signer < 65536}) (q := fun c => cC c.1) (fun g hg => sh_crt hg) hg
  have hw := wf_u16 w1
  refine ⟨⟨n0, n1.toNat, n2, ⟨n3, n4, n5, ⟨n6, w7⟩⟩, n8, n9, s10, l.map (·.1)⟩, by show n1.toNat < 65536; omega, fun c hc => ?_, ?_⟩
  · obtain ⟨y, _, rfl⟩ := List.mem_map.1 hc
    exact y.2
  · have e : ((n1.toNat : Nat) : Int) = n1 := by omega
    simp only [vM, mC, e, List.length_map, h1, certsC]
    rw [← flat_map1 l (·.1) cC, ← h2]
    exact hr
end Go.Proofs.Ytpjlkefadnbgdaa

/- The call of LetterOdd. -/
namespace Go.Proofs.Ytpjlkefadnbgdaa
set_option linter.unusedSimpArgs false
set_option linter.unusedVariables false
open Go.RowKit Go.Lib Go.ChangeShapes Go.WideShapes Go.ChangeAt

set_option maxRecDepth 100000 in
theorem letterOdd_calls {H : Type} {enc : TypeId × Value → H} (W : World) {base0 : Nat} {v0 : Value} {d0 : DataW H} {p0 : List MemPlace} (hv0 : Value.okWide Try.prog W .any base0 34 v0) (h0 : DataW.Trod enc Try.prog W 0 (fun _ => true) true 34 v0 d0 p0) :
    Calls Try.prog 5 #[v0] W fun e w' => e = .returned (.bool true) ∧ Below W.heap.size W w' := by
  obtain ⟨m, hg, hsg, hr⟩ := open_msg hv0 h0
  exact calls_true (vargs := [v0]) (a_lodd m hg hsg) (.cons hr .nil) (fun a ha => by simp at ha; subst ha; rfl)
end Go.Proofs.Ytpjlkefadnbgdaa
