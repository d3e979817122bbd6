/- The calls of PackOne. -/
import Derived.Test.YtdmhilhfdcmdiaaLo
import Derived.Test.YtdmhilhfdcmdiaaLq
import Derived.OpenShut
import Derived.ShutString
namespace Go.Proofs.Ytdmhilhfdcmdiaa
set_option linter.unusedSimpArgs false
set_option linter.unusedVariables false
open Go.RowKit Go.Lib Go.ChangeShapes Go.WideShapes Go.ChangeAt

theorem u8_of {n : Int} (h : (Lit.int .u8 n).wf = true) : ∃ b : UInt8, n = (b.toNat : Int) := by
  simp only [Lit.wf, Bool.and_eq_true, decide_eq_true_eq] at h
  have h1 : 0 ≤ n ∧ n ≤ 255 := by
    have e1 : IntKind.min .u8 = 0 := by decide
    have e2 : IntKind.max .u8 = 255 := by decide
    rw [e1, e2] at h; omega
  exact ⟨UInt8.ofNat n.toNat, by simp; omega⟩
/-- a slice of bytes that came in -/
theorem open_u8R {H : Type} {enc : TypeId × Value → H} {P : Program} {W : World} {t e : TypeId} {fuel : Nat} {v : Value} {x : DataW H × List MemPlace} (ht : P.underlying t = some (.slice e)) (he : P.underlying e = some (.int .u8)) (hs : P.cellsOf e = 1)
    (h : DataW.trod enc P W 0 (fun _ => true) true fuel t [v] = some x) : ∃ l : List UInt8, l.length ≤ 9223372036854775807 ∧ Rep (gW W) v (.lst .ro l.length (u8s l)) := by
  obtain ⟨l, h1, h2⟩ := open_rep (α := UInt8) (q := fun b => [.int .u8 b.toNat]) ht hs (by decide) (fun y a ha => by simp at ha; subst ha; rfl) (fun cs m y hcl hy => by
    obtain ⟨n, e1, _, hw⟩ := DataW.trod_int he hy
    obtain ⟨b, rfl⟩ := u8_of hw
    subst e1
    exact ⟨b, .cons (.int _ _) .nil, fun u hu => by simp at hu; subst hu; rfl⟩) h
  rw [map_flat] at h2
  exact ⟨l, h1, h2⟩
set_option maxRecDepth 100000 in
theorem packOne_calls {H : Type} {enc : TypeId × Value → H} (W : World) {base base' : Nat} {v u : Value} {d e : DataW H} {p q : List MemPlace} (hv : Value.okWide Try.prog W .any base 9 v)
    (h : DataW.Trod enc Try.prog W 0 (fun _ => true) true 9 v d p) (hu : Value.okWide Try.prog W .any base' 29 u) (h1 : DataW.Trod enc Try.prog W 0 (fun _ => true) true 29 u e q) :
    Calls Try.prog 6 #[v, u] W fun e w' => e = .returned (.bool true) ∧ Below W.heap.size W w' := by
  obtain ⟨s, rfl⟩ := okWide_string Try.underlying9 hv
  obtain ⟨a0, n0, cap0, rfl⟩ := okWide_slice Try.underlying29 hu
  obtain ⟨fuel, hf⟩ := h1
  obtain ⟨l, hl, hr⟩ := open_u8R Try.underlying29 Try.underlying5 (by kernel_rfl) hf
  exact calls_true (vargs := [.string s, _]) (a_one s l hl) (.cons (.str s) (.cons hr .nil)) (fun a ha => by simp at ha; rcases ha with rfl | rfl <;> rfl)
end Go.Proofs.Ytdmhilhfdcmdiaa
