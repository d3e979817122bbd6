/- Texts of one proof, laid together: Open. -/
import Derived.Test.YtpiofcjkekpboaaMA1
import Derived.ProofKit
import Derived.OpenShut
import Derived.Deep.Slices
set_option maxRecDepth 100000
set_option maxHeartbeats 16000000

set_option linter.unusedSimpArgs false
set_option linter.unusedVariables false
/- Opening what came in: slices whose elements have any number of cells, fields of structs. No program in sight. -/
namespace Go.Proofs.Ytpiofcjkekpboaa
open Go.RowKit Go.ChangeShapes Go.WideShapes Go.ChangeAt

theorem list_of {α : Type} {Q : Nat → α → Prop} : ∀ (n : Nat), (∀ i, i < n → ∃ x, Q i x) → ∃ l : List α, l.length = n ∧ ∀ i x, l[i]? = some x → Q i x
 | 0, _ => ⟨[], rfl, fun i x h => by simp at h⟩
 | n + 1, h => by
  obtain ⟨l, hl, hq⟩ := list_of n (fun i hi => h i (by omega))
  obtain ⟨x, hx⟩ := h n (by omega)
  refine ⟨l ++ [x], by simp [hl], fun i y hy => ?_⟩
  by_cases hi : i < l.length
  ·rw [List.getElem?_append_left hi] at hy; exact hq i y hy
  ·rw [List.getElem?_append_right (by omega)] at hy
   have : i - l.length = 0 := by
    rcases Nat.eq_zero_or_pos (i - l.length) with h0 | h0
    ·exact h0
    ·rw [List.getElem?_eq_none (by simp; omega)] at hy; cases hy
   rw [this] at hy; simp at hy; subst hy
   have : i = n := by omega
   subst this; exact hx

section
variable {H : Type} {enc : TypeId × Value → H} {P : Program} {w : World}

theorem open_elems {t e : TypeId} {size fuel : Nat} {cs : List Value} {x : DataW H × List MemPlace} (ht : P.underlying t = some (.slice e)) (hs : P.cellsOf e = size) (hpos : 0 < size) (h : DataW.trod enc P w 0 (fun _ => true) true fuel t cs = some x) :
  ∃ (a : Option Addr) (n cap : Nat), cs = [.slice a n cap] ∧ n ≤ cap ∧ cap ≤ 9223372036854775807 ∧ (a = none → n = 0 ∧ cap = 0) ∧ ∃ b off, (0 < n → a = some ⟨b, off, none⟩) ∧
   ∀ i, i < n → ∃ (cs' : List Value) (m : Nat) (y : DataW H × List MemPlace), cs'.length = size ∧ (∀ j, j < size → w.cell? ⟨b, off + i * size + j, none⟩ = cs'[j]?) ∧ DataW.trod enc P w 0 (fun _ => true) true m e cs' = some y := by
 rcases Deep.open_slice ht h with ⟨hcs, _⟩ | ⟨ad, len, cap, m, n', D, Pl, hcs, hb, hl, hm, hmm, hx, hi⟩
 ·exact ⟨none, 0, 0, hcs, by omega, by omega, fun _ => ⟨rfl, rfl⟩, 0, 0, by omega, by omega⟩
 ·have hml : len ≤ m := by rw [hmm]; simp; exact hl
  have hcap : cap ≤ 9223372036854775807 := by unfold maxLen at hm; omega
  rw [hs] at hi
  refine ⟨some ad, len, cap, hcs, hl, hcap, (fun h => by cases h), ad.block, ad.off, ?_, ?_⟩
  ·intro h0
   obtain ⟨cs', hc, ht⟩ := hi 0 (by omega)
   obtain ⟨_, hcl, hat⟩ := World.cells?_some hc
   have h1 := hat 0 hpos
   rw [List.getElem?_eq_getElem (by omega)] at h1
   have hsp : ad.spot = none := by simpa [Addr.add] using World.cell?_spot h1
   cases ad; simp at hsp; subst hsp; rfl
  ·intro i hi'
   obtain ⟨cs', hc, ht⟩ := hi i (by omega)
   obtain ⟨_, hcl, hat⟩ := World.cells?_some hc
   refine ⟨cs', n', _, hcl, ?_, ht⟩
   intro j hj
   have h1 := hat j hj
   have h00 := hat 0 hpos
   rw [List.getElem?_eq_getElem (by omega)] at h1 h00
   have hsp : ad.spot = none := by
    obtain ⟨cs0, hc0, _⟩ := hi 0 (by omega)
    obtain ⟨_, hcl0, hat0⟩ := World.cells?_some hc0
    have h2 := hat0 0 hpos
    rw [List.getElem?_eq_getElem (by omega)] at h2
    simpa [Addr.add] using World.cell?_spot h2
   cases ad with
   | mk bb oo sp =>
    simp at hsp; subst hsp
    rw [Deep.add_add, add_none] at h1
    simp only
    rw [Nat.add_assoc, h1, List.getElem?_eq_getElem]
end

end Go.Proofs.Ytpiofcjkekpboaa
