/- Texts of one proof, laid together: Qd. -/
import Derived.Test.YtcbcnbefaggnhaaMR12
import Derived.Test.YtcbcnbefaggnhaaMR13
import Derived.OpenShut
import Derived.ShutString

/- Opening a record, an entry and a request that came in; the calls of the laws on records. -/
namespace Go.Proofs.Ytcbcnbefaggnhaa
set_option linter.unusedSimpArgs false
set_option linter.unusedVariables false
open Go.RowKit Go.Lib Go.ChangeShapes Go.WideShapes Go.ChangeAt

theorem chk_record : chkSh Try.prog 8 24 [.int .i64, .slice [.int .i64, .slice [.int .i64, .slice [.str]], .int .i64]] = true := by kernel_rfl
theorem chk_request : chkSh Try.prog 8 30 [.int .i64, .int .i64, .int .i64, .int .i64, .slice [.str]] = true := by kernel_rfl
theorem chk_entry : chkSh Try.prog 8 28 [.int .i64, .slice [.str]] = true := by kernel_rfl
theorem wf_i64 {n : Int} (h : (Lit.int .i64 n).wf = true) : -9223372036854775808 ≤ n ∧ n ≤ 9223372036854775807 := by
  simp only [Lit.wf, Bool.and_eq_true, decide_eq_true_eq] at h
  have h1 : IntKind.i64.min = -9223372036854775808 := rfl
  have h2 : IntKind.i64.max = 9223372036854775807 := rfl
  omega
theorem sh_ent {g : List AV} (h : ShOks [.int .i64, .slice [.str]] g) : ∃ x : {x : Ent // fitE x}, g = eC x.1 := by
  cases h with | cons k0 h =>
  cases h with | cons k1 h =>
  cases h
  cases k0 with | int _ n _ =>
  obtain ⟨l, hl, rfl, _⟩ := sh_strs k1
  exact ⟨⟨⟨n, l⟩, hl⟩, rfl⟩
def fitO (o : Obt) : Prop := o.ents.length ≤ 9223372036854775807 ∧ ∀ x ∈ o.ents, x.who.length ≤ 9223372036854775807
theorem flat_map1 {α β γ : Type} (l : List α) (f : α → β) (g : β → List γ) : l.flatMap (fun x => g (f x)) = (l.map f).flatMap g := by rw [List.flatMap_map]
theorem sh_obj {g : List AV} (h : ShOks [.int .i64, .slice [.int .i64, .slice [.str]], .int .i64] g) : ∃ o : {o : Obt // fitO o}, g = oC o.1 := by
  cases h with | cons k0 h =>
  cases h with | cons k1 h =>
  cases h with | cons k2 h =>
  cases h
  cases k0 with | int _ n _ =>
  cases k2 with | int _ m _ =>
  cases k1 with | slice _ gs hl hg =>
  obtain ⟨l, h1, h2⟩ := sh_list (α := {x : Ent // fitE x}) (q := fun x => eC x.1) (fun g hg => sh_ent hg) hg
  refine ⟨⟨⟨n, l.map (·.1), m⟩, by simp; omega, fun x hx => ?_⟩, ?_⟩
  · obtain ⟨y, _, rfl⟩ := List.mem_map.1 hx
    exact y.2
  · simp only [oC, List.length_map, h1, h2, entsC]
    rw [flat_map1 l (·.1) eC]
set_option maxRecDepth 100000 in
theorem open_record {H : Type} {enc : TypeId × Value → H} {W : World} {base : Nat} {v : Value} {d : DataW H} {p : List MemPlace} (hv : Value.okWide Try.prog W .any base 24 v) (h : DataW.Trod enc Try.prog W 0 (fun _ => true) true 24 v d p) :
    ∃ r : Rcd, fitR r ∧ Rep (gW W) v (vR r) := by
  obtain ⟨zs, hr, hs⟩ := open_argS chk_record Try.underlying24 hv h
  cases hs with | cons k0 hs =>
  cases hs with | cons k1 hs =>
  cases hs
  cases k0 with | int _ n _ =>
  cases k1 with | slice _ gs hl hg =>
  obtain ⟨l, h1, h2⟩ := sh_list (α := {o : Obt // fitO o}) (q := fun o => oC o.1) (fun g hg => sh_obj hg) hg
  refine ⟨⟨n, l.map (·.1)⟩, ⟨by simp; omega, fun o ho => ?_⟩, ?_⟩
  · obtain ⟨y, _, rfl⟩ := List.mem_map.1 ho
    exact y.2
  · simp only [vR, rC, List.length_map, h1, objsC]
    rw [← flat_map1 l (·.1) oC, ← h2]
    exact hr
set_option maxRecDepth 100000 in
theorem open_entry {H : Type} {enc : TypeId × Value → H} {W : World} {base : Nat} {v : Value} {d : DataW H} {p : List MemPlace} (hv : Value.okWide Try.prog W .any base 28 v) (h : DataW.Trod enc Try.prog W 0 (fun _ => true) true 28 v d p) :
    ∃ x : Ent, fitE x ∧ Rep (gW W) v (vE x) := by
  obtain ⟨zs, hr, hs⟩ := open_argS chk_entry Try.underlying28 hv h
  obtain ⟨x, rfl⟩ := sh_ent hs
  exact ⟨x.1, x.2, hr⟩
set_option maxRecDepth 100000 in
theorem open_request {H : Type} {enc : TypeId × Value → H} {W : World} {base : Nat} {v : Value} {d : DataW H} {p : List MemPlace} (hv : Value.okWide Try.prog W .any base 30 v) (h : DataW.Trod enc Try.prog W 0 (fun _ => true) true 30 v d p) :
    ∃ q : Rqs, fitE q.ent ∧ Rep (gW W) v (vQ q) := by
  obtain ⟨zs, hr, hs⟩ := open_argS chk_request Try.underlying30 hv h
  cases hs with | cons k0 hs =>
  cases hs with | cons k1 hs =>
  cases hs with | cons k2 hs =>
  cases hs with | cons k3 hs =>
  cases hs with | cons k4 hs =>
  cases hs
  cases k0 with | int _ n0 _ =>
  cases k1 with | int _ n1 _ =>
  cases k2 with | int _ n2 _ =>
  cases k3 with | int _ n3 _ =>
  obtain ⟨l, hl, rfl, _⟩ := sh_strs k4
  exact ⟨⟨n0, n1, n2, ⟨n3, l⟩⟩, hl, hr⟩
set_option maxRecDepth 100000 in
theorem open_i64 {H : Type} {enc : TypeId × Value → H} {W : World} {base : Nat} {v : Value} {d : DataW H} {p : List MemPlace} (hv : Value.okWide Try.prog W .any base 3 v) (h : DataW.Trod enc Try.prog W 0 (fun _ => true) true 3 v d p) :
    ∃ n : Int, v = .int .i64 n ∧ -9223372036854775808 ≤ n ∧ n ≤ 9223372036854775807 := by
  obtain ⟨a, hr, hs⟩ := open_arg1 (n := 3) (sh := .int .i64) (by kernel_rfl) hv h (by rw [Try.underlying3]; intro fs hf; cases hf) (by rw [Try.underlying3]; intro k e hf; cases hf)
  cases hs with | int _ n w =>
  cases hr
  exact ⟨n, rfl, wf_i64 w⟩
set_option maxRecDepth 100000 in
theorem recordBytes_calls {H : Type} {enc : TypeId × Value → H} (W : World) {base0 base1 : Nat} {v0 v1 : Value} {d0 d1 : DataW H} {p0 p1 : List MemPlace} (hv0 : Value.okWide Try.prog W .any base0 24 v0) (h0 : DataW.Trod enc Try.prog W 0 (fun _ => true) true 24 v0 d0 p0) (hv1 : Value.okWide Try.prog W .any base1 9 v1) (h1 : DataW.Trod enc Try.prog W 0 (fun _ => true) true 9 v1 d1 p1) :
    Calls Try.prog 4 #[v0, v1] W fun e w' => e = .returned (.bool true) ∧ Below W.heap.size W w' := by
  obtain ⟨r, hf, hr⟩ := open_record hv0 h0
  obtain ⟨s, rfl⟩ := okWide_string Try.underlying9 hv1
  exact calls_true (vargs := [v0, .string s]) (a_rbytes r s hf) (.cons hr (.cons (.str s) .nil)) (fun a ha => by simp at ha; rcases ha with rfl | rfl <;> rfl)
set_option maxRecDepth 100000 in
theorem recordBack_calls {H : Type} {enc : TypeId × Value → H} (W : World) {base0 base1 : Nat} {v0 v1 : Value} {d0 d1 : DataW H} {p0 p1 : List MemPlace} (hv0 : Value.okWide Try.prog W .any base0 24 v0) (h0 : DataW.Trod enc Try.prog W 0 (fun _ => true) true 24 v0 d0 p0) (hv1 : Value.okWide Try.prog W .any base1 9 v1) (h1 : DataW.Trod enc Try.prog W 0 (fun _ => true) true 9 v1 d1 p1) :
    Calls Try.prog 5 #[v0, v1] W fun e w' => e = .returned (.bool true) ∧ Below W.heap.size W w' := by
  obtain ⟨r, hf, hr⟩ := open_record hv0 h0
  obtain ⟨s, rfl⟩ := okWide_string Try.underlying9 hv1
  exact calls_true (vargs := [v0, .string s]) (a_rback r s hf) (.cons hr (.cons (.str s) .nil)) (fun a ha => by simp at ha; rcases ha with rfl | rfl <;> rfl)
set_option maxRecDepth 100000 in
theorem recordLeaves_calls {H : Type} {enc : TypeId × Value → H} (W : World) {base0 base1 : Nat} {v0 v1 : Value} {d0 d1 : DataW H} {p0 p1 : List MemPlace} (hv0 : Value.okWide Try.prog W .any base0 24 v0) (h0 : DataW.Trod enc Try.prog W 0 (fun _ => true) true 24 v0 d0 p0) (hv1 : Value.okWide Try.prog W .any base1 30 v1) (h1 : DataW.Trod enc Try.prog W 0 (fun _ => true) true 30 v1 d1 p1) :
    Calls Try.prog 6 #[v0, v1] W fun e w' => e = .returned (.bool true) ∧ Below W.heap.size W w' := by
  obtain ⟨r, hf, hr⟩ := open_record hv0 h0
  obtain ⟨q, hq, hs⟩ := open_request hv1 h1
  exact calls_true (vargs := [v0, v1]) (a_rleaves r q hf hq) (.cons hr (.cons hs .nil)) (fun a ha => by simp at ha; rcases ha with rfl | rfl <;> rfl)
set_option maxRecDepth 100000 in
theorem recordTurns_calls {H : Type} {enc : TypeId × Value → H} (W : World) {base0 base1 base2 : Nat} {v0 v1 v2 : Value} {d0 d1 d2 : DataW H} {p0 p1 p2 : List MemPlace} (hv0 : Value.okWide Try.prog W .any base0 24 v0) (h0 : DataW.Trod enc Try.prog W 0 (fun _ => true) true 24 v0 d0 p0) (hv1 : Value.okWide Try.prog W .any base1 3 v1) (h1 : DataW.Trod enc Try.prog W 0 (fun _ => true) true 3 v1 d1 p1) (hv2 : Value.okWide Try.prog W .any base2 28 v2) (h2 : DataW.Trod enc Try.prog W 0 (fun _ => true) true 28 v2 d2 p2) :
    Calls Try.prog 7 #[v0, v1, v2] W fun e w' => e = .returned (.bool true) ∧ Below W.heap.size W w' := by
  obtain ⟨r, hf, hr⟩ := open_record hv0 h0
  obtain ⟨n, rfl, hn⟩ := open_i64 hv1 h1
  obtain ⟨x, hx, hs⟩ := open_entry hv2 h2
  exact calls_true (vargs := [v0, .int .i64 n, v2]) (a_rturns r n x hf hx) (.cons hr (.cons (.int _ _) (.cons hs .nil))) (fun a ha => by simp at ha; rcases ha with rfl | rfl | rfl <;> rfl)
end Go.Proofs.Ytcbcnbefaggnhaa
