/- Tables of package atom in memory: 'Tab w b L S': at block b lies a table with the names L; its blocks are among S. Contracts of New, Put, Find, Name, Len. -/
import Derived.Test.YtpiofcjkekpboaaAtB
namespace Go.Proofs.Ytpiofcjkekpboaa
set_option linter.unusedSimpArgs false
set_option linter.unusedVariables false
open Go.RowKit Go.Maps
open Go.WideMaps Go.WideElems Go.MapKept Go.ChangeMaps

def ownB (a : Option Addr) : Option Nat := a.map (·.block)
theorem ownBlock_slice (a : Option Addr) (n c : Nat) : (Value.slice a n c).ownBlock = ownB a := by cases a <;> rfl

structure TabG (w : World) (b : Nat) (L : Nat → List ByteArray) (S : Nat → Prop) (a : Nat → Option Addr) (cap : Nat → Nat) (m : Nat → Option Nat) : Prop where
  sb : S b
  lt : ∀ j, S j → j < w.heap.size
  c1 : ∀ k, k < 6 → w.cell? ⟨b, k, none⟩ = some (.slice (a k) (L k).length (cap k))
  c2 : ∀ k, k < 6 → w.cell? ⟨b, 6 + k, none⟩ = some (.map (m k))
  fr : ∀ k, w.frozen? ⟨b, k, none⟩ = false
  row : ∀ k, k < 6 → w.ownsRow 0 9 1 (.slice (a k) (L k).length (cap k)) (L k).length ((L k).map .string)
  rowS : ∀ k, k < 6 → ∀ j, ownB (a k) = some j → S j ∧ j ≠ b
  rowD : ∀ j k, j < 6 → k < 6 → j ≠ k → ∀ r, ownB (a j) = some r → ownB (a k) ≠ some r
  mapS : ∀ k, k < 6 → ∀ j, m k = some j → S j ∧ j ≠ b
  mapD : ∀ j k, j < 6 → k < 6 → j ≠ k → ∀ r, m j = some r → m k ≠ some r
  mapR : ∀ j k, j < 6 → k < 6 → ∀ r, m j = some r → ownB (a k) ≠ some r
  nils : ∀ k, k < 6 → m k = none → a k = none ∧ cap k = 0 ∧ L k = []
  dict : ∀ k, k < 6 → ∀ mb, m k = some mb → ∃ D, w.ownsMap Try.prog 9 (plainElem Try.prog 32) mb (L k).length D ∧ DictOf k (L k) D

/-- At block b lies a table with the names L; its blocks are among S. -/
def Tab (w : World) (b : Nat) (L : Nat → List ByteArray) (S : Nat → Prop) : Prop := ∃ a cap m, TabG w b L S a cap m

theorem Tab.lt {w : World} {b : Nat} {L : Nat → List ByteArray} {S : Nat → Prop} (h : Tab w b L S) : ∀ j, S j → j < w.heap.size := by
  obtain ⟨a, cap, m, h⟩ := h; exact h.lt

/-- A table stays while other blocks change. -/
theorem Tab.kept {w w' : World} {b : Nat} {L : Nat → List ByteArray} {S S' : Nat → Prop} (h : Tab w b L S) (hc : Chg S' w w') (hd : ∀ j, S j → ¬ S' j) : Tab w' b L S := by
  obtain ⟨a, cap, m, h⟩ := h
  have hb : ∀ j, S j → w'.heap[j]? = w.heap[j]? := fun j hj => hc.block j (h.lt j hj) (hd j hj)
  refine ⟨a, cap, m, h.sb, fun j hj => Nat.lt_of_lt_of_le (h.lt j hj) hc.size, ?_, ?_, ?_, ?_, h.rowS, h.rowD, h.mapS, h.mapD, h.mapR, h.nils, ?_⟩
  · intro k hk; rw [World.cell?_of_block (w := w) (hb b h.sb)]; exact h.c1 k hk
  · intro k hk; rw [World.cell?_of_block (w := w) (hb b h.sb)]; exact h.c2 k hk
  · intro k; rw [World.frozen?_of_block (w := w) (hb b h.sb)]; exact h.fr k
  · intro k hk
    obtain ⟨h1, h2⟩ := h.row k hk
    refine ⟨h1, ?_⟩
    rcases h2 with h2 | ⟨g, c, cur, hv, hg, hh, r⟩
    · exact .inl h2
    · refine .inr ⟨g, c, cur, hv, hg, ?_, r⟩
      have := h.rowS k hk g (by rw [← ownBlock_slice (a k) (L k).length (cap k), hv]; rfl)
      rw [hb g this.1]; exact hh
  · intro k hk mb hmb
    obtain ⟨D, ⟨es, clock, he, r⟩, hD⟩ := h.dict k hk mb hmb
    exact ⟨D, ⟨es, clock, by rw [hb mb (h.mapS k hk mb hmb).1]; exact he, r⟩, hD⟩

/-- More blocks may be counted to it. -/
theorem Tab.mono {w : World} {b : Nat} {L : Nat → List ByteArray} {S S' : Nat → Prop} (h : Tab w b L S) (hs : ∀ j, S j → S' j) (hl : ∀ j, S' j → j < w.heap.size) : Tab w b L S' := by
  obtain ⟨a, cap, m, h⟩ := h
  exact ⟨a, cap, m, hs _ h.sb, hl, h.c1, h.c2, h.fr, h.row, fun k hk j e => ⟨hs _ (h.rowS k hk j e).1, (h.rowS k hk j e).2⟩, h.rowD, fun k hk j e => ⟨hs _ (h.mapS k hk j e).1, (h.mapS k hk j e).2⟩, h.mapD, h.mapR, h.nils, h.dict⟩

/-- The blocks of S, and those that came since w. -/
def Since (S : Nat → Prop) (w w' : World) : Nat → Prop := fun j => S j ∨ (w.heap.size ≤ j ∧ j < w'.heap.size)

/-- Behind Put of a new name. -/
theorem TabG.put {w w' : World} {b : Nat} {L : Nat → List ByteArray} {S : Nat → Prop} {a : Nat → Option Addr} {cap : Nat → Nat} {m : Nat → Option Nat} (h : TabG w b L S a cap m)
    {k : Nat} (hk : k < 6) (s : ByteArray) (D : DataW Unit) (hD : DictOf k (L k ++ [s]) D)
    (p : PutPost2 w w' b k (L k).length (m k) (ownB (a k)) ((L k).map .string ++ [.string s]) D) : Tab w' b (upd L k (L k ++ [s])) (Since S w w') := by
  obtain ⟨g, c, e1, e2, e3, e4⟩ := p.rows
  obtain ⟨mb, d1, d2, d3⟩ := p.maps
  have hbl : b < w.heap.size := h.lt b h.sb
  have hgb : g ≠ b := by
    rcases e3 with e | e
    · exact (h.rowS k hk g e).2
    · omega
  have hmbb : mb ≠ b := by
    rcases d3 with e | e
    · exact (h.mapS k hk mb e).2
    · omega
  have hrS : ∀ j, j < 6 → ∀ r, ownB (a j) = some r → r < w.heap.size := fun j hj r e => h.lt _ (h.rowS j hj r e).1
  have hmS : ∀ j, j < 6 → ∀ r, m j = some r → r < w.heap.size := fun j hj r e => h.lt _ (h.mapS j hj r e).1
  have hmbl : mb < w'.heap.size := d2.lt
  have hgrow := p.chg
  -- a row, a map of another kind is as it was
  have hother : ∀ j, j < 6 → j ≠ k → ∀ r, ownB (a j) = some r → w'.heap[r]? = w.heap[r]? := fun j hj hjk r e =>
    hgrow.block r (hrS j hj r e) (by
      rintro (h1 | h1 | h1)
      · exact (h.rowS j hj r e).2 h1
      · exact h.mapR k j hk hj r h1 e
      · exact h.rowD j k hj hk hjk r e h1)
  have hmother : ∀ j, j < 6 → j ≠ k → ∀ r, m j = some r → w'.heap[r]? = w.heap[r]? := fun j hj hjk r e =>
    hgrow.block r (hmS j hj r e) (by
      rintro (h1 | h1 | h1)
      · exact (h.mapS j hj r e).2 h1
      · exact h.mapD j k hj hk hjk r e h1
      · exact h.mapR j k hj hk r e h1)
  refine ⟨fun j => if j = k then some ⟨g, 0, none⟩ else a j, fun j => if j = k then c else cap j, fun j => if j = k then some mb else m j, .inl h.sb, ?_, ?_, ?_, ?_, ?_, ?_, ?_, ?_, ?_, ?_, ?_, ?_⟩
  · rintro j (hj | hj)
    · exact Nat.lt_of_lt_of_le (h.lt j hj) p.chg.size
    · exact hj.2
  · intro j hj
    by_cases e : j = k
    · subst e; simp only [if_true, upd_same]; simpa using e1
    · simp only [if_neg e, upd_other _ _ e]; exact p.cells _ _ e (by omega) (h.c1 j hj)
  · intro j hj
    by_cases e : j = k
    · subst e; simpa using d1
    · simp only [if_neg e]; exact p.cells _ _ (by omega) (by omega) (h.c2 j hj)
  · intro j; exact p.frozen j (h.fr j)
  · intro j hj
    by_cases e : j = k
    · subst e; simp only [if_true, upd_same]; simpa using e2
    · simp only [if_neg e, upd_other _ _ e]
      obtain ⟨h1, h2⟩ := h.row j hj
      refine ⟨h1, ?_⟩
      rcases h2 with h2 | ⟨g', c', cur, hv, hg, hh, r⟩
      · exact .inl h2
      · refine .inr ⟨g', c', cur, hv, hg, ?_, r⟩
        rw [hother j hj e g' (by rw [← ownBlock_slice (a j) (L j).length (cap j), hv]; rfl)]; exact hh
  · intro j hj r
    by_cases e : j = k
    · subst e
      simp only [if_true, ownB, Option.map_some, Option.some.injEq]
      rintro rfl
      refine ⟨?_, hgb⟩
      rcases e3 with e | e
      · exact .inl (h.rowS j hj g e).1
      · exact .inr ⟨e, e4⟩
    · simp only [if_neg e]; intro hr; exact ⟨.inl (h.rowS j hj r hr).1, (h.rowS j hj r hr).2⟩
  · intro i j hi hj hij r
    by_cases ei : i = k
    · subst ei
      simp only [if_true, if_neg (Ne.symm hij), ownB, Option.map_some, Option.some.injEq]
      rintro rfl hr
      rcases e3 with e | e
      · exact h.rowD i j hi hj hij g e hr
      · have := hrS j hj g hr; omega
    · by_cases ej : j = k
      · subst ej
        simp only [if_true, if_neg ei]
        intro hr
        simp only [ownB, Option.map_some, ne_eq, Option.some.injEq]
        rintro rfl
        rcases e3 with e | e
        · exact h.rowD i j hi hj hij g hr e
        · have := hrS i hi g hr; omega
      · simp only [if_neg ei, if_neg ej]; exact h.rowD i j hi hj hij r
  · intro j hj r
    by_cases e : j = k
    · subst e
      simp only [if_true, Option.some.injEq]
      rintro rfl
      refine ⟨?_, hmbb⟩
      rcases d3 with e | e
      · exact .inl (h.mapS j hj mb e).1
      · exact .inr ⟨e, hmbl⟩
    · simp only [if_neg e]; intro hr; exact ⟨.inl (h.mapS j hj r hr).1, (h.mapS j hj r hr).2⟩
  · intro i j hi hj hij r
    by_cases ei : i = k
    · subst ei
      simp only [if_true, if_neg (Ne.symm hij), Option.some.injEq]
      rintro rfl hr
      rcases d3 with e | e
      · exact h.mapD i j hi hj hij mb e hr
      · have := hmS j hj mb hr; omega
    · by_cases ej : j = k
      · subst ej
        simp only [if_true, if_neg ei, ne_eq, Option.some.injEq]
        rintro hr rfl
        rcases d3 with e | e
        · exact h.mapD i j hi hj hij mb hr e
        · have := hmS i hi mb hr; omega
      · simp only [if_neg ei, if_neg ej]; exact h.mapD i j hi hj hij r
  · -- a map's block is no row's: the one is a map, the other has cells
    intro i j hi hj r hr hr2
    have hrow : ∃ cur, w'.heap[r]? = some (.cells cur 9 (0, 0)) := by
      by_cases ej : j = k
      · subst ej
        simp only [if_true, ownB, Option.map_some, Option.some.injEq] at hr2
        subst hr2
        rcases e2.2 with ⟨h0, _⟩ | ⟨g', c', cur, hv, _, hh, _⟩
        · cases h0
        · injection hv with hv _ _; injection hv with hv; injection hv with hv; subst hv; exact ⟨cur, hh⟩
      · simp only [if_neg ej] at hr2
        rcases (h.row j hj).2 with ⟨h0, _⟩ | ⟨g', c', cur, hv, _, hh, _⟩
        · injection h0 with h0 _ _; rw [h0] at hr2; cases hr2
        · injection hv with hv _ _; rw [hv] at hr2; simp [ownB] at hr2; subst hr2
          exact ⟨cur, by rw [hother j hj ej g' (by rw [hv]; rfl)]; exact hh⟩
    have hmap : ∃ es cl, w'.heap[r]? = some (.map es cl) := by
      by_cases ei : i = k
      · subst ei
        simp only [if_true, Option.some.injEq] at hr
        subst hr
        obtain ⟨es, cl, hh, _⟩ := d2
        exact ⟨es, cl, hh⟩
      · simp only [if_neg ei] at hr
        obtain ⟨D', ⟨es, cl, hh, _⟩, _⟩ := h.dict i hi r hr
        exact ⟨es, cl, by rw [hmother i hi ei r hr]; exact hh⟩
    obtain ⟨cur, h1⟩ := hrow
    obtain ⟨es, cl, h2⟩ := hmap
    rw [h1] at h2; cases h2
  · intro j hj
    by_cases e : j = k
    · subst e; simp
    · simp only [if_neg e, upd_other _ _ e]; exact h.nils j hj
  · intro j hj r
    by_cases e : j = k
    · subst e
      simp only [if_true, upd_same, Option.some.injEq]
      rintro rfl
      exact ⟨D, by simpa using d2, hD⟩
    · simp only [if_neg e, upd_other _ _ e]
      intro hr
      obtain ⟨D', ⟨es, clock, he, r'⟩, hD'⟩ := h.dict j hj r hr
      exact ⟨D', ⟨es, clock, by rw [hmother j hj e r hr]; exact he, r'⟩, hD'⟩

end Go.Proofs.Ytpiofcjkekpboaa
