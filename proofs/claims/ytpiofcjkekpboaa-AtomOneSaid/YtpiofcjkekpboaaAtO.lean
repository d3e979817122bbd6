/- A slice of acts that came in, opened; AtomDoes for every input. -/
import Derived.Test.YtpiofcjkekpboaaAtL
import Derived.Test.YtpiofcjkekpboaaOpen
namespace Go.Proofs.Ytpiofcjkekpboaa
set_option linter.unusedSimpArgs false
set_option linter.unusedVariables false
open Go.RowKit Go.Maps Go.ChangeShapes Go.WideShapes Go.ChangeAt

set_option maxRecDepth 100000 in
theorem open_acts {H : Type} {enc : TypeId × Value → H} {W : World} {base : Nat} {v : Value} {d : DataW H} {p : List MemPlace} (hv : Value.okWide Try.prog W .any base 22 v)
    (h : DataW.Trod enc Try.prog W 0 (fun _ => true) true 22 v d p) :
    ∃ (a : Option Addr) (n cap : Nat) (l : List ActT), v = .slice a n cap ∧ l.length = n ∧ n ≤ 9223372036854775807 ∧ ActsAt W a l ∧ ∀ x ∈ l, ActOk x := by
  obtain ⟨a0, n0, cap0, rfl⟩ := okWide_slice Try.underlying22 hv
  obtain ⟨fuel, hf⟩ := h
  obtain ⟨a, n, cap, hcs, hnc, hcm, _, b, off, hab, hel⟩ := open_elems (size := 3) Try.underlying22 (by kernel_rfl) (by decide) hf
  simp [Value.cells] at hcs
  obtain ⟨rfl, rfl, rfl⟩ := hcs
  obtain ⟨l, hl, hq⟩ := list_of (α := ActT) (Q := fun i x => ActOk x ∧ W.cell? ⟨b, off + i * 3, none⟩ = some (.int .i64 x.1) ∧ W.cell? ⟨b, off + i * 3 + 1, none⟩ = some (.string x.2.1) ∧ W.cell? ⟨b, off + i * 3 + 2, none⟩ = some (.bool x.2.2)) n0 (by
    intro i hi
    obtain ⟨cs, m, y, hcl, hc, ht⟩ := hel i hi
    obtain ⟨m0, y0, h0⟩ := field1 Try.underlying30 ht 0 0 3 rfl (by kernel_rfl) (by omega)
    obtain ⟨m1, y1, h1⟩ := field1 Try.underlying30 ht 1 1 9 rfl (by kernel_rfl) (by omega)
    obtain ⟨m2, y2, h2⟩ := field1 Try.underlying30 ht 2 2 4 rfl (by kernel_rfl) (by omega)
    obtain ⟨k, e0, _, wk⟩ := DataW.trod_int Try.underlying3 h0
    obtain ⟨s, e1, _, hs⟩ := DataW.trod_string Try.underlying9 h1
    obtain ⟨f, e2, _⟩ := DataW.trod_bool Try.underlying4 h2
    injection e0 with e0 _
    injection e1 with e1 _
    injection e2 with e2 _
    refine ⟨(k, s, f), ⟨(bounds_i64 wk).1, (bounds_i64 wk).2, hs⟩, ?_, ?_, ?_⟩
    · have := hc 0 (by decide); rw [Nat.add_zero, List.getElem?_eq_getElem (by omega)] at this; rw [this]; exact congrArg some e0
    · have := hc 1 (by decide); rw [List.getElem?_eq_getElem (by omega)] at this; rw [this]; exact congrArg some e1
    · have := hc 2 (by decide); rw [List.getElem?_eq_getElem (by omega)] at this; rw [this]; exact congrArg some e2)
  refine ⟨a0, n0, cap0, l, rfl, hl, by omega, ?_, ?_⟩
  · by_cases hn : n0 = 0
    · left; exact List.eq_nil_of_length_eq_zero (by omega)
    · exact .inr ⟨b, off, hab (by omega), fun i x hx => (hq i x hx).2⟩
  · intro x hx
    obtain ⟨i, hi, e⟩ := List.mem_iff_getElem.1 hx
    exact (hq i x (by simp [hi, e])).1

end Go.Proofs.Ytpiofcjkekpboaa
