/- AtomDoes for every input. -/
import Derived.Test.YtdlafipcbmbkjaaAtO
import Derived.Test.YtdlafipcbmbkjaaAtM
namespace Go.Proofs.Ytdlafipcbmbkjaa
open Go.RowKit Go.Maps Go.ChangeShapes Go.WideShapes Go.ChangeAt

theorem atomDoes_calls {H : Type} {enc : TypeId × Value → H} (W : World) {base : Nat} {v v1 v2 : Value} {d d1 d2 : DataW H} {p p1 p2 : List MemPlace} (hv : Value.okWide Try.prog W .any base 22 v)
    (h : DataW.Trod enc Try.prog W 0 (fun _ => true) true 22 v d p) (hv1 : Value.okWide Try.prog W .any base 24 v1) (h1 : DataW.Trod enc Try.prog W 0 (fun _ => true) true 24 v1 d1 p1)
    (hv2 : Value.okWide Try.prog W .any base 3 v2) (h2 : DataW.Trod enc Try.prog W 0 (fun _ => true) true 3 v2 d2 p2) :
    Calls Try.prog 3 #[v, v1, v2] W fun e w' => e = .returned (.bool true) ∧ Below W.heap.size W w' := by
  obtain ⟨a, n, cap, l, rfl, hl, hn, ha, hok⟩ := open_acts hv h
  obtain ⟨x, rfl, rfl, rfl, wx⟩ := open_int Try.underlying24 hv1 h1
  obtain ⟨k, rfl, rfl, rfl, wk⟩ := open_int Try.underlying3 hv2 h2
  have hb := bounds_u16 wx
  obtain ⟨xn, rfl⟩ := Int.eq_ofNat_of_zero_le hb.1
  rcases ha with h0 | ⟨rb, off, rfl, hc⟩
  · subst h0
    simp at hl; subst hl
    exact does_empty a cap xn k W (by omega)
  · exact does_walk rb off n cap xn k l W hl hn (.inr ⟨rb, off, rfl, hc⟩) hok (by omega) hc

end Go.Proofs.Ytdlafipcbmbkjaa
