/- Texts of one proof, laid together: Ol We. -/
import Derived.Test.YtlfnepcglnjogaaMB17
import Derived.Test.YtlfnepcglnjogaaMB16
import Derived.OpenShut
import Derived.ShutString
import Derived.Test.YtlfnepcglnjogaaMB18

/- Opening a model that came in; the laws' calls. -/
namespace Go.Proofs.Ytlfnepcglnjogaa
set_option linter.unusedSimpArgs false
set_option linter.unusedVariables false
open Go.RowKit Go.Lib Go.ChangeShapes Go.WideShapes Go.ChangeAt

theorem chk_model : chkSh Try.prog 8 24 [.int .i64, .slice [.int .u16, .slice [.int .u8]]] = true := by kernel_rfl
theorem wf14_u16 {n : Int} (h : (Lit.int .u16 n).wf = true) : 0 ≤ n ∧ n < 65536 := by
  simp only [Lit.wf, Bool.and_eq_true, decide_eq_true_eq] at h
  have h1 : IntKind.u16.min = 0 := rfl
  have h2 : IntKind.u16.max = 65535 := rfl
  omega
theorem wf14_u8 {n : Int} (h : (Lit.int .u8 n).wf = true) : 0 ≤ n ∧ n < 256 := by
  simp only [Lit.wf, Bool.and_eq_true, decide_eq_true_eq] at h
  have h1 : IntKind.u8.min = 0 := rfl
  have h2 : IntKind.u8.max = 255 := rfl
  omega
theorem sh_u8 {g : List AV} (h : ShOks [.int .u8] g) : ∃ b : UInt8, g = [u8 b] := by
  cases h with | cons k0 h =>
  cases h
  cases k0 with | int _ n0 w0 =>
  have hw := wf14_u8 w0
  refine ⟨UInt8.ofNat n0.toNat, ?_⟩
  simp only [u8, UInt8.toNat_ofNat']
  rw [Nat.mod_eq_of_lt (by omega)]
  have e : ((n0.toNat : Nat) : Int) = n0 := by omega
  rw [e]
theorem flat_u8 (r : Rl) : r.flatMap (fun b => [u8 b]) = rlC r := by
  induction r with
  | nil => rfl
  | cons b r ih => rw [List.flatMap_cons, ih]; rfl
theorem sh_u8s {a : AV} (h : ShOk (.slice [.int .u8]) a) : ∃ r : Rl, a = .lst .ro r.length (rlC r) := by
  cases h with | slice _ gs hl hg =>
  obtain ⟨l, h1, h2⟩ := sh_list (q := fun b : UInt8 => [u8 b]) (fun g hg => sh_u8 hg) hg
  refine ⟨l, ?_⟩
  rw [h1, ← flat_u8, ← h2]
theorem sh_row {g : List AV} (h : ShOks [.int .u16, .slice [.int .u8]] g) : ∃ x : {x : Row // x.atom < 65536}, g = rowC x.1 := by
  cases h with | cons k0 h =>
  cases h with | cons k1 h =>
  cases h
  cases k0 with | int _ n0 w0 =>
  obtain ⟨r, rfl⟩ := sh_u8s k1
  have hw := wf14_u16 w0
  refine ⟨⟨⟨n0.toNat, r⟩, by show n0.toNat < 65536; omega⟩, ?_⟩
  have e : ((n0.toNat : Nat) : Int) = n0 := by omega
  simp only [rowC, kA, e]
theorem flat14 {α β γ : Type} (l : List α) (f : α → β) (g : β → List γ) : l.flatMap (fun x => g (f x)) = (l.map f).flatMap g := by rw [List.flatMap_map]
set_option maxRecDepth 100000 in
theorem open_model {H : Type} {enc : TypeId × Value → H} {W : World} {base : Nat} {v : Value} {d : DataW H} {p : List MemPlace} (hv : Value.okWide Try.prog W .any base 24 v) (h : DataW.Trod enc Try.prog W 0 (fun _ => true) true 24 v d p) :
    ∃ m : Mdl, (∀ x ∈ m.rows, x.atom < 65536) ∧ Rep (gW W) v (mdV m) := by
  obtain ⟨zs, hr, hs⟩ := open_argS chk_model Try.underlying24 hv h
  cases hs with | cons k0 hs =>
  cases hs with | cons k1 hs =>
  cases hs
  cases k0 with | int _ n0 _ =>
  cases k1 with | slice _ gs hl hg =>
  obtain ⟨l, h1, h2⟩ := sh_list (α := {x : Row // x.atom < 65536}) (q := fun x => rowC x.1) (fun g hg => sh_row hg) hg
  refine ⟨⟨n0, l.map (·.1)⟩, fun x hx => ?_, ?_⟩
  · obtain ⟨y, _, rfl⟩ := List.mem_map.1 hx
    exact y.2
  · simp only [mdV, List.length_map, h1, rowsC]
    rw [← flat14 l (·.1) rowC, ← h2]
    exact hr
end Go.Proofs.Ytlfnepcglnjogaa

/- The call of ModelSound. -/
namespace Go.Proofs.Ytlfnepcglnjogaa
set_option linter.unusedSimpArgs false
set_option linter.unusedVariables false
open Go.RowKit Go.Lib Go.ChangeShapes Go.WideShapes Go.ChangeAt

theorem chk_rules : chkSh Try.prog 6 56 [.slice [.str, .str]] = true := by kernel_rfl
theorem chk_certs : chkSh Try.prog 6 57 [.slice [.int .i64, .int .u16, .str, .slice [.str], .int .i64, .int .i64, .int .i64]] = true := by kernel_rfl
theorem chk_word14 : chkSh Try.prog 2 27 [.str] = true := by kernel_rfl
theorem sh_rule14 {g : List AV} (h : ShOks [.str, .str] g) : ∃ r : RlB, g = [.str r.1, .str r.2] := by
  cases h with | cons k0 h =>
  cases h with | cons k1 h =>
  cases h
  cases k0 with | str s0 w0 =>
  cases k1 with | str s1 w1 =>
  exact ⟨(s0, s1), rfl⟩
theorem sh_cert14 {g : List AV} (h : ShOks [.int .i64, .int .u16, .str, .slice [.str], .int .i64, .int .i64, .int .i64] g) : ∃ c : {c : Crt // c.signer < 65536}, g = cC c.1 := by
  cases h with | cons k0 hs =>
  cases hs with | cons k1 hs =>
  cases hs with | cons k2 hs =>
  cases hs with | cons k3 hs =>
  cases hs with | cons k4 hs =>
  cases hs with | cons k5 hs =>
  cases hs with | cons k6 hs =>
  cases hs
  cases k0 with | int _ n0 w0 =>
  cases k1 with | int _ n1 w1 =>
  cases k2 with | str s2 w2 =>
  obtain ⟨l, hl, rfl, _⟩ := sh_strs k3
  cases k4 with | int _ n4 w4 =>
  cases k5 with | int _ n5 w5 =>
  cases k6 with | int _ n6 w6 =>
  have hw := wf14_u16 w1
  refine ⟨⟨⟨n0, n1.toNat, s2, l, n4, n5, n6⟩, by show n1.toNat < 65536; omega⟩, ?_⟩
  have e : ((n1.toNat : Nat) : Int) = n1 := by omega
  simp only [cC, e]
set_option maxRecDepth 100000 in
theorem open_rules14 {H : Type} {enc : TypeId × Value → H} {W : World} {base : Nat} {v : Value} {d : DataW H} {p : List MemPlace} (hv : Value.okWide Try.prog W .any base 56 v) (h : DataW.Trod enc Try.prog W 0 (fun _ => true) true 56 v d p) :
    ∃ l : List RlB, Rep (gW W) v (.lst .ro l.length (rulB l)) := by
  obtain ⟨a, hr, hs⟩ := open_arg1 (n := 6) (sh := .slice [.str, .str]) chk_rules hv h (by rw [Try.underlying56]; intro fs hf; cases hf) (by rw [Try.underlying56]; intro k e hf; cases hf)
  cases hs with | slice _ gs hl hg =>
  obtain ⟨l, h1, h2⟩ := sh_list (q := fun r : RlB => [.str r.1, .str r.2]) (fun g hg => sh_rule14 hg) hg
  refine ⟨l, ?_⟩
  rw [h1]
  simp only [rulB]
  rw [← h2]
  exact hr
set_option maxRecDepth 100000 in
theorem open_certs14 {H : Type} {enc : TypeId × Value → H} {W : World} {base : Nat} {v : Value} {d : DataW H} {p : List MemPlace} (hv : Value.okWide Try.prog W .any base 57 v) (h : DataW.Trod enc Try.prog W 0 (fun _ => true) true 57 v d p) :
    ∃ l : List Crt, (∀ c ∈ l, c.signer < 65536) ∧ Rep (gW W) v (.lst .ro l.length (crtsC l)) := by
  obtain ⟨a, hr, hs⟩ := open_arg1 (n := 6) (sh := .slice [.int .i64, .int .u16, .str, .slice [.str], .int .i64, .int .i64, .int .i64]) chk_certs hv h (by rw [Try.underlying57]; intro fs hf; cases hf) (by rw [Try.underlying57]; intro k e hf; cases hf)
  cases hs with | slice _ gs hl hg =>
  obtain ⟨l, h1, h2⟩ := sh_list (α := {c : Crt // c.signer < 65536}) (q := fun c => cC c.1) (fun g hg => sh_cert14 hg) hg
  refine ⟨l.map (·.1), fun c hc => ?_, ?_⟩
  · obtain ⟨y, _, rfl⟩ := List.mem_map.1 hc
    exact y.2
  · simp only [List.length_map, h1, crtsC]
    rw [← flat14 l (·.1) cC, ← h2]
    exact hr
set_option maxRecDepth 100000 in
theorem open_word14 {H : Type} {enc : TypeId × Value → H} {W : World} {base : Nat} {v : Value} {d : DataW H} {p : List MemPlace} (hv : Value.okWide Try.prog W .any base 27 v) (h : DataW.Trod enc Try.prog W 0 (fun _ => true) true 27 v d p) :
    ∃ w : ByteArray, Rep (gW W) v (.str w) := by
  obtain ⟨a, hr, hs⟩ := open_arg1 (n := 2) (sh := .str) chk_word14 hv h (by rw [Try.underlying27]; intro fs hf; cases hf) (by rw [Try.underlying27]; intro k e hf; cases hf)
  cases hs with | str s0 w0 =>
  exact ⟨s0, hr⟩
set_option maxRecDepth 100000 in
theorem modelSound_calls {H : Type} {enc : TypeId × Value → H} (W : World) {base0 base1 base2 base3 : Nat} {v0 v1 v2 v3 : Value} {d0 d1 d2 d3 : DataW H} {p0 p1 p2 p3 : List MemPlace} (hv0 : Value.okWide Try.prog W .any base0 24 v0) (h0 : DataW.Trod enc Try.prog W 0 (fun _ => true) true 24 v0 d0 p0) (hv1 : Value.okWide Try.prog W .any base1 56 v1) (h1 : DataW.Trod enc Try.prog W 0 (fun _ => true) true 56 v1 d1 p1) (hv2 : Value.okWide Try.prog W .any base2 57 v2) (h2 : DataW.Trod enc Try.prog W 0 (fun _ => true) true 57 v2 d2 p2) (hv3 : Value.okWide Try.prog W .any base3 27 v3) (h3 : DataW.Trod enc Try.prog W 0 (fun _ => true) true 27 v3 d3 p3) :
    Calls Try.prog 4 #[v0, v1, v2, v3] W fun e w' => e = .returned (.bool true) ∧ Below W.heap.size W w' := by
  obtain ⟨m, hm, rm⟩ := open_model hv0 h0
  obtain ⟨a, ra⟩ := open_rules14 hv1 h1
  obtain ⟨b, hb, rb⟩ := open_certs14 hv2 h2
  obtain ⟨c, rc⟩ := open_word14 hv3 h3
  exact calls_true (vargs := [v0, v1, v2, v3]) (a14_sound m a b c hm hb) (.cons rm (.cons ra (.cons rb (.cons rc .nil)))) (fun a ha => by simp at ha; rcases ha with rfl | rfl | rfl | rfl <;> rfl)
end Go.Proofs.Ytlfnepcglnjogaa
