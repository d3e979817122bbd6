/- Contracts of package attorneyref01: Kind, Number, Of, May, Find, Name, All. -/
import Derived.Test.YtpiofcjkekpboaaAtE
namespace Go.Proofs.Ytpiofcjkekpboaa
set_option linter.unusedSimpArgs false
set_option linter.unusedVariables false
open Go.RowKit Go.Maps

theorem ret_ib {k : IntKind} {a b : Int} {x y : Bool} (h : a = b) (h' : x = y) : Ending.returned (.tuple #[.int k a, .bool x]) = .returned (.tuple #[.int k b, .bool y]) := by rw [h, h']

/-- A table of the reference in memory. -/
structure RTabG (w : World) (b : Nat) (L : Nat → List ByteArray) (S : Nat → Prop) (a : Nat → Option Addr) (cap : Nat → Nat) : Prop where
  sb : S b
  lt : ∀ j, S j → j < w.heap.size
  c1 : ∀ k, k < 6 → w.cell? ⟨b, k, none⟩ = some (.slice (a k) (L k).length (cap k))
  fr : ∀ k, w.frozen? ⟨b, k, none⟩ = false
  row : ∀ k, k < 6 → RowOf w (a k) ((L k).map .string)
  nil : ∀ k, k < 6 → a k = none → cap k = 0
  rowS : ∀ k, k < 6 → ∀ ad, a k = some ad → S ad.block ∧ ad.block ≠ b
def RTab (w : World) (b : Nat) (L : Nat → List ByteArray) (S : Nat → Prop) : Prop := ∃ a cap, RTabG w b L S a cap

theorem RTab.lt {w : World} {b : Nat} {L : Nat → List ByteArray} {S : Nat → Prop} (h : RTab w b L S) : ∀ j, S j → j < w.heap.size := by
  obtain ⟨a, cap, h⟩ := h; exact h.lt
theorem RTab.kept {w w' : World} {b : Nat} {L : Nat → List ByteArray} {S S' : Nat → Prop} (h : RTab w b L S) (hc : Chg S' w w') (hd : ∀ j, S j → ¬ S' j) : RTab w' b L S := by
  obtain ⟨a, cap, h⟩ := h
  have hb : ∀ j, S j → w'.heap[j]? = w.heap[j]? := fun j hj => hc.block j (h.lt j hj) (hd j hj)
  refine ⟨a, cap, h.sb, fun j hj => Nat.lt_of_lt_of_le (h.lt j hj) hc.size, ?_, ?_, ?_, h.nil, h.rowS⟩
  · intro k hk; rw [World.cell?_of_block (w := w) (hb b h.sb)]; exact h.c1 k hk
  · intro k; rw [World.frozen?_of_block (w := w) (hb b h.sb)]; exact h.fr k
  · intro k hk; exact (h.row k hk).kept hc (fun ad e => hd _ (h.rowS k hk ad e).1)
theorem RTab.mono {w : World} {b : Nat} {L : Nat → List ByteArray} {S S' : Nat → Prop} (h : RTab w b L S) (hs : ∀ j, S j → S' j) (hl : ∀ j, S' j → j < w.heap.size) : RTab w b L S' := by
  obtain ⟨a, cap, h⟩ := h
  exact ⟨a, cap, hs _ h.sb, hl, h.c1, h.fr, h.row, h.nil, fun k hk ad e => ⟨hs _ (h.rowS k hk ad e).1, (h.rowS k hk ad e).2⟩⟩

theorem posOf_at {s : ByteArray} {l : List ByteArray} {i : Nat} (h : l[i]? = some s) (hn : ∀ j, j < i → l[j]? ≠ some s) : posOf s l = i := posOf_of_get h hn

def posA (k : Nat) (s : ByteArray) (l : List ByteArray) : Int := if s ∈ l then 8192 * k + (posOf s l + 1) else 0
def memB (s : ByteArray) (l : List ByteArray) : Bool := decide (s ∈ l)

end Go.Proofs.Ytpiofcjkekpboaa
