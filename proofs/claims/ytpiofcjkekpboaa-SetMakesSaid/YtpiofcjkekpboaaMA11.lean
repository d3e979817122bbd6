/- Texts of one proof, laid together: Sc. -/
import Derived.Test.YtpiofcjkekpboaaMA10
import Derived.Shelf.SlicesE.Compact
import Derived.Shelf.SlSortCmp.NoneTotal

/- A sorted list, each once, is the words in order. No program in sight. -/
namespace Go.Proofs.Ytpiofcjkekpboaa
set_option linter.unusedSimpArgs false
set_option linter.unusedVariables false
open Go.RowKit Go.Lib Go.Sort

theorem rising_one {x : ByteArray} : ∀ {l : List ByteArray}, rising l = true → (∀ y ∈ l, wless y x = true) → rising (l ++ [x]) = true
  | [], _, _ => rfl
  | y :: l, h, hx => by
    obtain ⟨h1, h2⟩ := rising_cons.1 h
    rw [List.cons_append]
    refine rising_cons.2 ⟨fun z hz => ?_, rising_one h2 (fun z hz => hx z (by simp [hz]))⟩
    rcases List.mem_append.1 hz with hz | hz
    · exact h1 z hz
    · simp at hz; subst hz; exact hx y (by simp)
theorem compact_to {d : Array ByteArray} (hs : ∀ i j, i < j → j < d.size → wless d[j]! d[i]! = false) : ∀ m, m ≤ d.size → rising (compactUpTo d m) = true ∧ ∀ x, x ∈ compactUpTo d m ↔ ∃ j, j < m ∧ d[j]! = x := by
  intro m
  induction m with
  | zero => intro _; exact ⟨rfl, fun x => ⟨fun h => by simp [compactUpTo] at h, fun ⟨j, h, _⟩ => by omega⟩⟩
  | succ m ih =>
    intro hm
    obtain ⟨h1, h2⟩ := ih (by omega)
    rw [compactUpTo_succ]
    by_cases hk : keeps d m = true
    · rw [if_pos hk]
      simp only [keeps, decide_eq_true_eq] at hk
      refine ⟨rising_one h1 fun y hy => ?_, fun x => ?_⟩
      · obtain ⟨j, hj, rfl⟩ := (h2 y).1 hy
        rcases hk with hk | hk
        · omega
        · rcases wless_total d[j]! d[m]! with e | e | e
          · exfalso
            by_cases hjm : j = m - 1
            · subst hjm; exact hk e.symm
            · have a1 := hs j (m - 1) (by omega) (by omega)
              have a2 := hs (m - 1) m (by omega) (by omega)
              rw [← e] at a2
              rcases wless_total d[j]! d[m - 1]! with e2 | e2 | e2
              · exact hk (by rw [← e, e2])
              · rw [e2] at a2; cases a2
              · rw [e2] at a1; cases a1
          · exact e
          · rw [hs j m hj (by omega)] at e; cases e
      · rw [List.mem_append, h2]
        constructor
        · rintro (⟨j, hj, e⟩ | hx)
          · exact ⟨j, by omega, e⟩
          · simp at hx; subst hx; exact ⟨m, by omega, rfl⟩
        · rintro ⟨j, hj, e⟩
          by_cases hjm : j = m
          · subst hjm; exact .inr (by simp [e])
          · exact .inl ⟨j, by omega, e⟩
    · rw [if_neg hk, List.append_nil]
      simp only [keeps, decide_eq_true_eq, not_or, Decidable.not_not] at hk
      refine ⟨h1, fun x => ?_⟩
      rw [h2]
      constructor
      · rintro ⟨j, hj, e⟩; exact ⟨j, by omega, e⟩
      · rintro ⟨j, hj, e⟩
        by_cases hjm : j = m
        · subst hjm; exact ⟨j - 1, by omega, by rw [← hk.2, e]⟩
        · exact ⟨j, by omega, e⟩
theorem compact_nrm {d : Array ByteArray} {l : List ByteArray} (hs : ∀ i j, i < j → j < d.size → wless d[j]! d[i]! = false) (hm : ∀ x, x ∈ d.toList ↔ x ∈ l) : compactUpTo d d.size = nrm l := by
  obtain ⟨h1, h2⟩ := compact_to hs d.size (Nat.le_refl _)
  refine nrm_eq h1 fun x => ?_
  rw [h2, ← hm]
  constructor
  · rintro ⟨j, hj, rfl⟩
    rw [getElem!_pos d j hj]
    exact Array.mem_toList_iff.2 (Array.getElem_mem hj)
  · intro hx
    obtain ⟨j, hj, e⟩ := List.mem_iff_getElem.1 hx
    have hj' : j < d.size := by simpa using hj
    exact ⟨j, hj', by rw [getElem!_pos d j hj', ← e]; simp⟩
def cmpW (x y : ByteArray) : Int := if wless x y then -1 else if wless y x then 1 else 0
theorem ltOf_cmp (x y : ByteArray) : ltOf cmpW x y = wless x y := by
  unfold ltOf cmpW
  cases h1 : wless x y with
  | true => simp
  | false => cases h2 : wless y x <;> simp
theorem swo_cmp : SWO (ltOf cmpW) where
  irrefl x := by rw [ltOf_cmp]; exact wless_irrefl x
  trans x y z h1 h2 := by rw [ltOf_cmp] at *; exact wless_trans h1 h2
  ntrans x y z h1 h2 := by
    rw [ltOf_cmp] at *
    cases h3 : wless x z with
    | false => rfl
    | true =>
      rcases wless_total x y with rfl | e | e
      · rw [h3] at h2; cases h2
      · rw [h1] at e; cases e
      · have := wless_trans e h3; rw [h2] at this; cases this
end Go.Proofs.Ytpiofcjkekpboaa
