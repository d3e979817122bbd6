/- General: 'Chg S w w'': the world w' is w but for the blocks of S and for new blocks. No program in sight. -/
import Derived.WalkKit
import Derived.WalkSpells
import Derived.Deep.AppendLies
import Derived.Maps.OwnSet
import Derived.Maps.Views
import Derived.Lib.Hide
import Derived.Deep.QuietTactic
import Derived.BigQuiet
namespace Go.Proofs.Ytdlafipcbmbkjaa
open Go.RowKit

/-- w' is w but for the blocks of S and new ones. -/
structure Chg (S : Nat → Prop) (w w' : World) : Prop where
  os : w'.os = w.os
  tape : w'.tape = w.tape
  output : w'.output = w.output
  size : w.heap.size ≤ w'.heap.size
  block : ∀ k, k < w.heap.size → ¬ S k → w'.heap[k]? = w.heap[k]?

namespace Chg
variable {S S' : Nat → Prop} {w w1 w2 : World}
theorem refl (S : Nat → Prop) (w : World) : Chg S w w := ⟨rfl, rfl, rfl, Nat.le_refl _, fun _ _ _ => rfl⟩
theorem trans (h : Chg S w w1) (h' : Chg S' w1 w2) (hs : ∀ k, k < w.heap.size → S' k → S k) : Chg S w w2 :=
  ⟨h'.os.trans h.os, h'.tape.trans h.tape, h'.output.trans h.output, Nat.le_trans h.size h'.size,
   fun k hk hn => (h'.block k (Nat.lt_of_lt_of_le hk h.size) (fun x => hn (hs k hk x))).trans (h.block k hk hn)⟩
theorem mono (h : Chg S w w1) (hs : ∀ k, k < w.heap.size → S k → S' k) : Chg S' w w1 :=
  ⟨h.os, h.tape, h.output, h.size, fun k hk hn => h.block k hk (fun x => hn (hs k hk x))⟩
theorem alloc (h : Chg S w w1) (o : Obj) : Chg S w (w1.alloc o) :=
  h.trans (S' := fun _ => False) ⟨rfl, rfl, rfl, by simp, fun k hk _ => Below.heap_alloc w1 o k hk⟩ (fun _ _ x => x.elim)
theorem drew (h : Chg S w w1) : Chg S w w1.drew := ⟨h.os, h.tape, h.output, h.size, h.block⟩
theorem drewN (h : Chg S w w1) (n : Nat) : Chg S w (w1.drewN n) := ⟨h.os, h.tape, h.output, h.size, h.block⟩
theorem setCell (h : Chg S w w1) (a : Addr) (u : Value) (ha : a.block < w.heap.size → S a.block) : Chg S w (w1.setCell a u) :=
  h.trans (S' := fun k => k = a.block) ⟨rfl, rfl, rfl, by simp [World.setCell], fun k _ hn => Below.heap_setCell _ _ _ _ hn⟩ (fun k hk e => by subst e; exact ha hk)
theorem grown {row : Option Nat} (h : Chg S w w1) (hg : w1.grownBy w2 row) (hr : ∀ k, row = some k → k < w.heap.size → S k) : Chg S w w2 :=
  h.trans (S' := fun k => row = some k) ⟨hg.os, hg.tape, hg.output, hg.size, fun k hk hn => hg.block k hk (fun e => hn e.symm)⟩ (fun k hk e => hr k e hk)
theorem below {B : Nat} (h : Below B w w1) : Chg (fun k => B ≤ k) w w1 :=
  ⟨h.os, h.tape, h.output, h.size, fun k _ hn => h.block k (by omega)⟩
/-- nothing that was there has changed -/
theorem ext (h : Below w.heap.size w w1) : Chg S w w1 := ⟨h.os, h.tape, h.output, h.size, fun k hk _ => h.block k hk⟩
theorem toBelow {B : Nat} (h : Chg S w w1) (hB : B ≤ w.heap.size) (hs : ∀ k, S k → B ≤ k) : Below B w w1 :=
  ⟨h.os, h.tape, h.output, h.size, fun k hk => h.block k (by omega) (fun x => by have := hs k x; omega)⟩
theorem cell (h : Chg S w w1) {a : Addr} (hn : ¬ S a.block) {v : Value} (hc : w.cell? a = some v) : w1.cell? a = some v :=
  (World.cell?_of_block (h.block a.block (World.block_lt_of_cell? w a hc) hn)).trans hc
theorem heap (h : Chg S w w1) {k : Nat} {o : Obj} (hn : ¬ S k) (hc : w.heap[k]? = some o) : w1.heap[k]? = some o := by
  rw [h.block k (lt_of_block hc) hn]; exact hc
end Chg

/-- a cell behind the laying of a block -/
theorem cell_alloc {w : World} {a : Addr} {v : Value} (hc : w.cell? a = some v) (o : Obj) : (w.alloc o).cell? a = some v := by
  rw [World.cell?_of_block (w := w) (Below.heap_alloc w o a.block (World.block_lt_of_cell? w a hc))]; exact hc
theorem frozen_alloc {w : World} {a : Addr} {v : Value} (hc : w.cell? a = some v) (hf : w.frozen? a = false) (o : Obj) : (w.alloc o).frozen? a = false := by
  rw [World.frozen?_of_block (w := w) (Below.heap_alloc w o a.block (World.block_lt_of_cell? w a hc))]; exact hf
/-- a cell behind an append -/
theorem grow_cell {X w1 : World} {row : Option Nat} {a : Addr} {v : Value} (h : X.grownBy w1 row) (hc : X.cell? a = some v) (hne : row ≠ some a.block) : w1.cell? a = some v := by
  rw [h.cell_far a (World.block_lt_of_cell? X a hc) (fun e => hne e.symm)]; exact hc
theorem grow_frozen {X w1 : World} {row : Option Nat} {a : Addr} {v : Value} (h : X.grownBy w1 row) (hc : X.cell? a = some v) (hf : X.frozen? a = false) (hne : row ≠ some a.block) : w1.frozen? a = false := by
  rw [h.frozen_far a (World.block_lt_of_cell? X a hc) (fun e => hne e.symm)]; exact hf

/-- A slice with this address reads as these cells. -/
def RowOf (w : World) (a : Option Addr) (xs : List Value) : Prop :=
  xs = [] ∨ ∃ b off, a = some ⟨b, off, none⟩ ∧ ∀ j u, xs[j]? = some u → w.cell? ⟨b, off + j, none⟩ = some u

theorem RowOf.nil (w : World) (a : Option Addr) : RowOf w a [] := .inl rfl
theorem RowOf.kept {w w' : World} {a : Option Addr} {xs : List Value} {S : Nat → Prop} (h : RowOf w a xs) (hc : Chg S w w') (hn : ∀ ad, a = some ad → ¬ S ad.block) : RowOf w' a xs := by
  rcases h with h | ⟨b, off, rfl, h⟩
  · exact .inl h
  · exact .inr ⟨b, off, rfl, fun j u hu => hc.cell (a := ⟨b, off + j, none⟩) (hn ⟨b, off, none⟩ rfl) (h j u hu)⟩
theorem RowOf.ext {w w' : World} {a : Option Addr} {xs : List Value} (h : RowOf w a xs) (hc : Below w.heap.size w w') : RowOf w' a xs := by
  rcases h with h | ⟨b, off, rfl, h⟩
  · exact .inl h
  · exact .inr ⟨b, off, rfl, fun j u hu => by rw [hc.cell (World.block_lt_of_cell? w _ (h j u hu))]; exact h j u hu⟩
theorem RowOf.of_owns {w : World} {base : Nat} {e : TypeId} {a : Option Addr} {n cap : Nat} {xs : List Value} (h : w.ownsRow base e 1 (.slice a n cap) n xs) : RowOf w a xs := by
  rcases h.2 with ⟨hv, h0⟩ | ⟨g, c, cur, hv, hg, hh, hnc, hcm, hcs, ht⟩
  · left; have := h.1; rw [h0] at this; exact List.eq_nil_of_length_eq_zero (by simpa using this)
  · injection hv with hv _ _
    refine .inr ⟨g, 0, hv, fun j u hu => ?_⟩
    rw [← ht, List.getElem?_take] at hu
    split at hu
    · rw [Nat.zero_add, cell_of_row w g j cur e (0, 0) hh]; simpa using hu
    · cases hu

end Go.Proofs.Ytdlafipcbmbkjaa
