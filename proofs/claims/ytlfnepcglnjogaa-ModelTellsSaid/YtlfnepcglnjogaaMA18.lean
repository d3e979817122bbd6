/- Texts of one proof, laid together: Ol Wc. -/
import Derived.Test.YtlfnepcglnjogaaMA17
import Derived.Test.YtlfnepcglnjogaaMA16
import Derived.OpenShut
import Derived.ShutString

/- Opening a model that came in; the laws' calls. -/
namespace Go.Proofs.Ytlfnepcglnjogaa
set_option linter.unusedSimpArgs false
set_option linter.unusedVariables false
open Go.RowKit Go.Lib Go.ChangeShapes Go.WideShapes Go.ChangeAt

theorem chk_model : chkSh Try.prog 8 24 [.int .i64, .slice [.int .u16, .slice [.int .u8]]] = true := by kernel_rfl
theorem chk_set14 : chkSh Try.prog 3 26 [.slice [.str]] = true := by kernel_rfl
theorem wf14_u16 {n : Int} (h : (Lit.int .u16 n).wf = true) : 0 ≤ n ∧ n < 65536 := by
  simp only [Lit.wf, Bool.and_eq_true, decide_eq_true_eq] at h
  have h1 : IntKind.u16.min = 0 := rfl
  have h2 : IntKind.u16.max = 65535 := rfl
  omega
theorem wf14_u8 {n : Int} (h : (Lit.int .u8 n).wf = true) : 0 ≤ n ∧ n < 256 := by
  simp only [Lit.wf, Bool.and_eq_true, decide_eq_true_eq] at h
  have h1 : IntKind.u8.min = 0 := rfl
  have h2 : IntKind.u8.max = 255 := rfl
  omega
theorem sh_u8 {g : List AV} (h : ShOks [.int .u8] g) : ∃ b : UInt8, g = [u8 b] := by
  cases h with | cons k0 h =>
  cases h
  cases k0 with | int _ n0 w0 =>
  have hw := wf14_u8 w0
  refine ⟨UInt8.ofNat n0.toNat, ?_⟩
  simp only [u8, UInt8.toNat_ofNat']
  rw [Nat.mod_eq_of_lt (by omega)]
  have e : ((n0.toNat : Nat) : Int) = n0 := by omega
  rw [e]
theorem flat_u8 (r : Rl) : r.flatMap (fun b => [u8 b]) = rlC r := by
  induction r with
  | nil => rfl
  | cons b r ih => rw [List.flatMap_cons, ih]; rfl
theorem sh_u8s {a : AV} (h : ShOk (.slice [.int .u8]) a) : ∃ r : Rl, a = .lst .ro r.length (rlC r) := by
  cases h with | slice _ gs hl hg =>
  obtain ⟨l, h1, h2⟩ := sh_list (q := fun b : UInt8 => [u8 b]) (fun g hg => sh_u8 hg) hg
  refine ⟨l, ?_⟩
  rw [h1, ← flat_u8, ← h2]
theorem sh_row {g : List AV} (h : ShOks [.int .u16, .slice [.int .u8]] g) : ∃ x : {x : Row // x.atom < 65536}, g = rowC x.1 := by
  cases h with | cons k0 h =>
  cases h with | cons k1 h =>
  cases h
  cases k0 with | int _ n0 w0 =>
  obtain ⟨r, rfl⟩ := sh_u8s k1
  have hw := wf14_u16 w0
  refine ⟨⟨⟨n0.toNat, r⟩, by show n0.toNat < 65536; omega⟩, ?_⟩
  have e : ((n0.toNat : Nat) : Int) = n0 := by omega
  simp only [rowC, kA, e]
theorem flat14 {α β γ : Type} (l : List α) (f : α → β) (g : β → List γ) : l.flatMap (fun x => g (f x)) = (l.map f).flatMap g := by rw [List.flatMap_map]
set_option maxRecDepth 100000 in
theorem open_model {H : Type} {enc : TypeId × Value → H} {W : World} {base : Nat} {v : Value} {d : DataW H} {p : List MemPlace} (hv : Value.okWide Try.prog W .any base 24 v) (h : DataW.Trod enc Try.prog W 0 (fun _ => true) true 24 v d p) :
    ∃ m : Mdl, (∀ x ∈ m.rows, x.atom < 65536) ∧ Rep (gW W) v (mdV m) := by
  obtain ⟨zs, hr, hs⟩ := open_argS chk_model Try.underlying24 hv h
  cases hs with | cons k0 hs =>
  cases hs with | cons k1 hs =>
  cases hs
  cases k0 with | int _ n0 _ =>
  cases k1 with | slice _ gs hl hg =>
  obtain ⟨l, h1, h2⟩ := sh_list (α := {x : Row // x.atom < 65536}) (q := fun x => rowC x.1) (fun g hg => sh_row hg) hg
  refine ⟨⟨n0, l.map (·.1)⟩, fun x hx => ?_, ?_⟩
  · obtain ⟨y, _, rfl⟩ := List.mem_map.1 hx
    exact y.2
  · simp only [mdV, List.length_map, h1, rowsC]
    rw [← flat14 l (·.1) rowC, ← h2]
    exact hr
set_option maxRecDepth 100000 in
theorem open_set14 {H : Type} {enc : TypeId × Value → H} {W : World} {base : Nat} {v : Value} {d : DataW H} {p : List MemPlace} (hv : Value.okWide Try.prog W .any base 26 v) (h : DataW.Trod enc Try.prog W 0 (fun _ => true) true 26 v d p) :
    ∃ l : List ByteArray, Rep (gW W) v (.lst .ro l.length (l.map .str)) := by
  obtain ⟨a, hr, hs⟩ := open_arg1 (n := 3) (sh := .slice [.str]) chk_set14 hv h (by rw [Try.underlying26]; intro fs hf; cases hf) (by rw [Try.underlying26]; intro k e hf; cases hf)
  obtain ⟨l, hl, rfl, _⟩ := sh_strs hs
  exact ⟨l, hr⟩
end Go.Proofs.Ytlfnepcglnjogaa

/- The call of ModelTells. -/
namespace Go.Proofs.Ytlfnepcglnjogaa
set_option linter.unusedSimpArgs false
set_option linter.unusedVariables false
open Go.RowKit Go.Lib Go.ChangeShapes Go.WideShapes Go.ChangeAt

theorem chk_rule : chkSh Try.prog 4 29 [.str, .str] = true := by kernel_rfl
set_option maxRecDepth 100000 in
theorem open_rule {H : Type} {enc : TypeId × Value → H} {W : World} {base : Nat} {v : Value} {d : DataW H} {p : List MemPlace} (hv : Value.okWide Try.prog W .any base 29 v) (h : DataW.Trod enc Try.prog W 0 (fun _ => true) true 29 v d p) :
    ∃ x y : ByteArray, Rep (gW W) v (.agg [.str x, .str y]) := by
  obtain ⟨zs, hr, hs⟩ := open_argS chk_rule Try.underlying29 hv h
  cases hs with | cons k0 hs =>
  cases hs with | cons k1 hs =>
  cases hs
  cases k0 with | str s0 w0 =>
  cases k1 with | str s1 w1 =>
  exact ⟨s0, s1, hr⟩
set_option maxRecDepth 100000 in
theorem modelTells_calls {H : Type} {enc : TypeId × Value → H} (W : World) {base0 base1 base2 base3 : Nat} {v0 v1 v2 v3 : Value} {d0 d1 d2 d3 : DataW H} {p0 p1 p2 p3 : List MemPlace} (hv0 : Value.okWide Try.prog W .any base0 24 v0) (h0 : DataW.Trod enc Try.prog W 0 (fun _ => true) true 24 v0 d0 p0) (hv1 : Value.okWide Try.prog W .any base1 26 v1) (h1 : DataW.Trod enc Try.prog W 0 (fun _ => true) true 26 v1 d1 p1) (hv2 : Value.okWide Try.prog W .any base2 26 v2) (h2 : DataW.Trod enc Try.prog W 0 (fun _ => true) true 26 v2 d2 p2) (hv3 : Value.okWide Try.prog W .any base3 29 v3) (h3 : DataW.Trod enc Try.prog W 0 (fun _ => true) true 29 v3 d3 p3) :
    Calls Try.prog 3 #[v0, v1, v2, v3] W fun e w' => e = .returned (.bool true) ∧ Below W.heap.size W w' := by
  obtain ⟨m, hm, rm⟩ := open_model hv0 h0
  obtain ⟨a, ra⟩ := open_set14 hv1 h1
  obtain ⟨b, rb⟩ := open_set14 hv2 h2
  obtain ⟨x, y, rc⟩ := open_rule hv3 h3
  exact calls_true (vargs := [v0, v1, v2, v3]) (a14_tells m a b x y hm) (.cons rm (.cons ra (.cons rb (.cons rc .nil)))) (fun a ha => by simp at ha; rcases ha with rfl | rfl | rfl | rfl <;> rfl)
end Go.Proofs.Ytlfnepcglnjogaa
