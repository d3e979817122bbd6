/- Contract of (*attorneyref01.Table).Put. -/
import Derived.Test.YtpiofcjkekpboaaAtR
import Derived.Deep.RegionLaw
namespace Go.Proofs.Ytpiofcjkekpboaa
set_option linter.unusedSimpArgs false
set_option linter.unusedVariables false
open Go.RowKit Go.Maps

/-- What Put of a new name leaves of the reference's table. -/
structure RPutPost (w w' : World) (b k n : Nat) (xs : List Value) : Prop where
  rows : ∃ a cap, w'.cell? ⟨b, k, none⟩ = some (.slice a n cap) ∧ RowOf w' a xs ∧ (a = none → cap = 0) ∧ (∀ ad, a = some ad → w.heap.size ≤ ad.block ∧ ad.block < w'.heap.size)
  chg : Chg (fun j => j = b) w w'
  cells : ∀ o v, o ≠ k → w.cell? ⟨b, o, none⟩ = some v → w'.cell? ⟨b, o, none⟩ = some v
  frozen : ∀ o, w.frozen? ⟨b, o, none⟩ = false → w'.frozen? ⟨b, o, none⟩ = false

theorem rputPost_of {w w8 : World} {b k n c8 : Nat} {a8 : Option Addr} {xs : List Value} {u : Value} (hB : Below w.heap.size w w8) (hc : w.cell? ⟨b, k, none⟩ = some u) (hown : w8.ownsRow 0 9 1 (.slice a8 n c8) n xs)
    (hge : ∀ k, (Value.slice a8 n c8).ownBlock = some k → w.heap.size ≤ k) (hc8 : a8 = none → c8 = 0) : RPutPost w (w8.setCell ⟨b, k, none⟩ (.slice a8 n c8)) b k n xs := by
  have hb : b < w.heap.size := World.block_lt_of_cell? w _ hc
  have hc' : w8.cell? ⟨b, k, none⟩ = some u := by rw [hB.cell hb]; exact hc
  refine ⟨⟨a8, c8, World.cell?_setCell_same _ _ _ hc', ?_, hc8, ?_⟩, ?_, ?_, ?_⟩
  · refine RowOf.of_owns (ownsRow_setCell_other hown (a := ⟨b, k, none⟩) ?_ _)
    intro e; have := hge _ e; simp at this; omega
  · intro ad e
    subst e
    refine ⟨hge _ rfl, ?_⟩
    have := (hown.lt _ rfl).2
    simpa [World.setCell] using this
  · exact (Chg.ext hB).setCell _ _ (fun _ => rfl)
  · intro o v ho hv
    rw [World.cell?_setCell_other _ _ _ _ (by intro e; injection e; omega), hB.cell hb]; exact hv
  · intro o hv
    rw [World.frozen?_setCell, hB.frozen hb]; exact hv

def RTabTurned (S : Nat → Prop) (b : Nat) (L' : Nat → List ByteArray) (w w' : World) : Prop := RTab w' b L' (Since S w w') ∧ Chg S w w'
theorem RTabTurned.same {S : Nat → Prop} {b : Nat} {L : Nat → List ByteArray} {w : World} (h : RTab w b L S) : RTabTurned S b L w w :=
  ⟨h.mono (fun _ hj => .inl hj) (by rintro j (hj | hj); exact h.lt j hj; omega), Chg.refl _ _⟩

theorem RTabG.put {w w' : World} {b : Nat} {L : Nat → List ByteArray} {S : Nat → Prop} {a : Nat → Option Addr} {cap : Nat → Nat} (h : RTabG w b L S a cap) {k : Nat} (_hk : k < 6) (s : ByteArray)
    (p : RPutPost w w' b k ((L k).length + 1) ((L k).map .string ++ [.string s])) : RTab w' b (upd L k (L k ++ [s])) (Since S w w') := by
  obtain ⟨a', c', e1, e2, e3, e4⟩ := p.rows
  have hbl : b < w.heap.size := h.lt b h.sb
  refine ⟨fun j => if j = k then a' else a j, fun j => if j = k then c' else cap j, .inl h.sb, ?_, ?_, fun j => p.frozen j (h.fr j), ?_, ?_, ?_⟩
  · rintro j (hj | hj)
    · exact Nat.lt_of_lt_of_le (h.lt j hj) p.chg.size
    · exact hj.2
  · intro j hj
    by_cases e : j = k
    · subst e; simp only [if_true, upd_same]; simpa using e1
    · simp only [if_neg e, upd_other _ _ e]; exact p.cells _ _ e (h.c1 j hj)
  · intro j hj
    by_cases e : j = k
    · subst e; simp only [if_true, upd_same]; simpa using e2
    · simp only [if_neg e, upd_other _ _ e]
      exact (h.row j hj).kept p.chg (fun ad he => (h.rowS j hj ad he).2)
  · intro j hj
    by_cases e : j = k
    · subst e; simpa using e3
    · simp only [if_neg e]; exact h.nil j hj
  · intro j hj ad
    by_cases e : j = k
    · subst e
      simp only [if_true]
      intro he
      have := e4 ad he
      exact ⟨.inr this, by omega⟩
    · simp only [if_neg e]; intro he; exact ⟨.inl (h.rowS j hj ad he).1, (h.rowS j hj ad he).2⟩

end Go.Proofs.Ytpiofcjkekpboaa
