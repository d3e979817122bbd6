/- Texts of one proof, laid together: Base WdP. -/
import Derived.WalkKit
import Derived.WalkSpells
import Derived.Deep.AppendLies
import Derived.Maps.OwnSet
import Derived.Maps.Views
import Derived.Lib.Hide
import Derived.Deep.QuietTactic
import Derived.BigQuiet
set_option maxRecDepth 100000
set_option maxHeartbeats 16000000

set_option linter.unusedSimpArgs false
set_option linter.unusedVariables false
/- General: 'Chg S w w'': the world w' is w but for the blocks of S and for new blocks. No program in sight. -/
namespace Go.Proofs.Ytpiofcjkekpboaa
open Go.RowKit

structure Chg (S : Nat → Prop) (w w' : World) : Prop where
  os : w'.os = w.os
  tape : w'.tape = w.tape
  output : w'.output = w.output
  size : w.heap.size ≤ w'.heap.size
  block : ∀ k, k < w.heap.size → ¬ S k → w'.heap[k]? = w.heap[k]?

namespace Chg
variable {S S' : Nat → Prop} {w w1 w2 : World}
theorem refl (S : Nat → Prop) (w : World) : Chg S w w := ⟨rfl, rfl, rfl, Nat.le_refl _, fun _ _ _ => rfl⟩
theorem trans (h : Chg S w w1) (h' : Chg S' w1 w2) (hs : ∀ k, k < w.heap.size → S' k → S k) : Chg S w w2 :=
  ⟨h'.os.trans h.os, h'.tape.trans h.tape, h'.output.trans h.output, Nat.le_trans h.size h'.size,
   fun k hk hn => (h'.block k (Nat.lt_of_lt_of_le hk h.size) (fun x => hn (hs k hk x))).trans (h.block k hk hn)⟩
theorem mono (h : Chg S w w1) (hs : ∀ k, k < w.heap.size → S k → S' k) : Chg S' w w1 :=
 ⟨h.os, h.tape, h.output, h.size, fun k hk hn => h.block k hk (fun x => hn (hs k hk x))⟩
theorem alloc (h : Chg S w w1) (o : Obj) : Chg S w (w1.alloc o) :=
 h.trans (S' := fun _ => False) ⟨rfl, rfl, rfl, by simp, fun k hk _ => Below.heap_alloc w1 o k hk⟩ (fun _ _ x => x.elim)
theorem drew (h : Chg S w w1) : Chg S w w1.drew := ⟨h.os, h.tape, h.output, h.size, h.block⟩
theorem drewN (h : Chg S w w1) (n : Nat) : Chg S w (w1.drewN n) := ⟨h.os, h.tape, h.output, h.size, h.block⟩
theorem below {B : Nat} (h : Below B w w1) : Chg (fun k => B ≤ k) w w1 :=
 ⟨h.os, h.tape, h.output, h.size, fun k _ hn => h.block k (by omega)⟩
theorem ext (h : Below w.heap.size w w1) : Chg S w w1 := ⟨h.os, h.tape, h.output, h.size, fun k hk _ => h.block k hk⟩
theorem cell (h : Chg S w w1) {a : Addr} (hn : ¬ S a.block) {v : Value} (hc : w.cell? a = some v) : w1.cell? a = some v :=
 (World.cell?_of_block (h.block a.block (World.block_lt_of_cell? w a hc) hn)).trans hc
theorem heap (h : Chg S w w1) {k : Nat} {o : Obj} (hn : ¬ S k) (hc : w.heap[k]? = some o) : w1.heap[k]? = some o := by
 rw [h.block k (lt_of_block hc) hn]; exact hc
end Chg

theorem cell_alloc {w : World} {a : Addr} {v : Value} (hc : w.cell? a = some v) (o : Obj) : (w.alloc o).cell? a = some v := by
 rw [World.cell?_of_block (w := w) (Below.heap_alloc w o a.block (World.block_lt_of_cell? w a hc))]; exact hc
def RowOf (w : World) (a : Option Addr) (xs : List Value) : Prop :=
 xs = [] ∨ ∃ b off, a = some ⟨b, off, none⟩ ∧ ∀ j u, xs[j]? = some u → w.cell? ⟨b, off + j, none⟩ = some u

theorem str_eq {x s : ByteArray} (h : x = s) : (x.toList == s.toList) = true := by subst h; simp
theorem str_ne {x s : ByteArray} (h : x ≠ s) : (x.toList == s.toList) = false := by
 rw [beq_eq_false_iff_ne]
 intro e
 rw [ByteArray.toList_eq, ByteArray.toList_eq] at e
 exact h (WideShapes.bytes_inj e)
theorem str_iff {x s : ByteArray} : (x.toList == s.toList) = decide (x = s) := by
 by_cases h : x = s
 ·rw [str_eq h, decide_eq_true h]
 ·rw [str_ne h, decide_eq_false h]

theorem add_none (b off j : Nat) : (⟨b, off, none⟩ : Addr).add j = ⟨b, off + j, none⟩ := by
 unfold Addr.add; split
 ·next h => subst h; rfl
 ·rfl

theorem owns_form {w : World} {base : Nat} {e : TypeId} {size : Nat} {v : Value} {n : Nat} {xs : List Value} (h : w.ownsRow base e size v n xs) : ∃ a cap, v = .slice a n cap ∧ (a = none → cap = 0) := by
 rcases h.2 with ⟨rfl, rfl⟩ | ⟨g, cap, cur, rfl, _⟩
 ·exact ⟨_, _, rfl, fun _ => rfl⟩
 ·exact ⟨_, _, rfl, fun h => by cases h⟩

section
variable {P : Program} (w : World)

end

end Go.Proofs.Ytpiofcjkekpboaa
/- The plain part for words and sets: which words and sets may be, and how words are compared. No program in sight. -/
namespace Go.Proofs.Ytpiofcjkekpboaa
open Go.RowKit

def atomAt (s : ByteArray) (i : Nat) : Nat := if h : 2 * i + 1 < s.size then s[2 * i].toNat * 256 + s[2 * i + 1].toNat else 0
def wordMay (s : ByteArray) : Bool := decide (s.size % 2 = 0 ∧ 1 ≤ s.size / 2 ∧ s.size / 2 ≤ 8 ∧ ∀ i, i < s.size / 2 → atomAt s i ≠ 0)
theorem wordMay_size {s : ByteArray} (h : wordMay s = true) : s.size % 2 = 0 ∧ 2 ≤ s.size ∧ s.size ≤ 16 := by
 simp only [wordMay, decide_eq_true_eq] at h; omega
def wless (a b : ByteArray) : Bool := if a.size = b.size then Op.bytesLess a.toList b.toList else decide (a.size < b.size)
def rising : List ByteArray → Bool
 | [] => true
 | [_] => true
 | x :: y :: r => wless x y && rising (y :: r)
def setMay (l : List ByteArray) : Bool := decide (1 ≤ l.length ∧ l.length ≤ 16) && l.all wordMay && rising l

theorem rising_snoc : ∀ (l : List ByteArray) (x y : ByteArray), rising (l ++ [x, y]) = (rising (l ++ [x]) && wless x y)
 | [], x, y => by simp [rising]
 | [a], x, y => by simp [rising]
 | a :: b :: r, x, y => by
  have := rising_snoc (b :: r) x y
  simp only [List.cons_append] at this ⊢
  simp only [rising]
  rw [this, Bool.and_assoc]

def risingTo (l : List ByteArray) (k : Nat) : Bool := (l.take k).all wordMay && rising (l.take k)
theorem risingTo_zero (l : List ByteArray) : risingTo l 0 = true := by simp [risingTo, rising]
theorem risingTo_one {l : List ByteArray} {x : ByteArray} (h : l[0]? = some x) : risingTo l 1 = wordMay x := by
 cases l with
 | nil => simp at h
 | cons a r => simp at h; subst h; simp [risingTo, rising]
theorem risingTo_succ {l : List ByteArray} {k : Nat} {x y : ByteArray} (hx : l[k]? = some x) (hy : l[k + 1]? = some y) : risingTo l (k + 2) = (risingTo l (k + 1) && (wordMay y && wless x y)) := by
 have h1 : l.take (k + 1) = l.take k ++ [x] := by
  obtain ⟨hk, e⟩ := List.getElem?_eq_some_iff.1 hx
  rw [List.take_succ_eq_append_getElem hk, e]
 have h2 : l.take (k + 2) = l.take (k + 1) ++ [y] := by
  obtain ⟨hk, e⟩ := List.getElem?_eq_some_iff.1 hy
  rw [List.take_succ_eq_append_getElem hk, e]
 unfold risingTo
 rw [h2, h1, List.append_assoc]
 show (List.all (l.take k ++ [x, y]) wordMay && rising (l.take k ++ [x, y])) = _
 rw [rising_snoc]
 simp only [List.all_append, List.all_cons, List.all_nil, Bool.and_true]
 cases (l.take k).all wordMay <;> cases wordMay x <;> cases wordMay y <;> cases rising (l.take k ++ [x]) <;> cases wless x y <;> rfl
theorem risingTo_mono {l : List ByteArray} {k : Nat} (h : risingTo l k = false) : ∀ d, risingTo l (k + d) = false
 | 0 => h
 | d + 1 => by
  have hd := risingTo_mono h d
  by_cases hk : k + d < l.length
  ·cases hkd : k + d with
   | zero => rw [hkd, risingTo_zero] at hd; cases hd
   | succ m =>
    have hm : m < l.length := by omega
    have hm1 : m + 1 < l.length := by omega
    have e := risingTo_succ (l := l) (k := m) (List.getElem?_eq_getElem hm) (List.getElem?_eq_getElem hm1)
    rw [hkd] at hd
    rw [hd] at e
    rw [← Nat.add_assoc, hkd]
    exact e
  ·have e1 : l.take (k + (d + 1)) = l := List.take_of_length_le (by omega)
   have e2 : l.take (k + d) = l := List.take_of_length_le (by omega)
   unfold risingTo at hd ⊢
   rw [e1]; rw [e2] at hd; exact hd
theorem setMay_eq (l : List ByteArray) (h1 : 1 ≤ l.length) (h2 : l.length ≤ 16) : setMay l = risingTo l l.length := by
 unfold setMay risingTo
 rw [decide_eq_true ⟨h1, h2⟩, List.take_length]; simp
theorem setMay_no {l : List ByteArray} {k : Nat} (hk : k ≤ l.length) (h : risingTo l k = false) : setMay l = false := by
 by_cases hl : 1 ≤ l.length ∧ l.length ≤ 16
 ·rw [setMay_eq l hl.1 hl.2]
  have := risingTo_mono h (l.length - k)
  rwa [show k + (l.length - k) = l.length by omega] at this
 ·unfold setMay; rw [decide_eq_false hl]; simp
theorem setMay_len {l : List ByteArray} (h : ¬ (1 ≤ l.length ∧ l.length ≤ 16)) : setMay l = false := by
 unfold setMay; rw [decide_eq_false h]; simp
theorem setMay_words {l : List ByteArray} (h : setMay l = true) : (1 ≤ l.length ∧ l.length ≤ 16) ∧ ∀ x ∈ l, wordMay x = true := by
 unfold setMay at h
 simp only [Bool.and_eq_true, decide_eq_true_eq, List.all_eq_true] at h
 exact ⟨h.1.1, h.1.2⟩

theorem bytesLess_take : ∀ (i : Nat) (a b : List UInt8), a.length = b.length → (∀ j, j < i → a[j]? = b[j]?) → i ≤ a.length → Op.bytesLess a b = Op.bytesLess (a.drop i) (b.drop i)
 | 0, a, b, _, _, _ => by simp
 | i + 1, [], b, _, _, h3 => by simp at h3
 | i + 1, x :: a, [], h1, _, _ => by simp at h1
 | i + 1, x :: a, y :: b, h1, h2, h3 => by
  have h0 := h2 0 (by omega)
  simp at h0; subst h0
  simp only [Op.bytesLess, List.drop_succ_cons]
  have : ¬ x < x := by simp
  simp only [this, decide_false, Bool.false_or, beq_self_eq_true, Bool.true_and]
  exact bytesLess_take i a b (by simpa using h1) (fun j hj => by simpa using h2 (j + 1) (by omega)) (by simpa using h3)
theorem wless_at {a b : ByteArray} {i : Nat} (hs : a.size = b.size) (hi : i < a.size) (h : ∀ j, (h1 : j < a.size) → j < i → a[j] = b[j]'(by omega)) (hne : a[i] ≠ b[i]'(by omega)) : wless a b = decide (a[i].toNat < (b[i]'(by omega)).toNat) := by
 unfold wless
 rw [if_pos hs, ByteArray.toList_eq, ByteArray.toList_eq]
 have ha : a.data.toList.length = a.size := by simp
 have hb : b.data.toList.length = b.size := by simp
 rw [bytesLess_take i a.data.toList b.data.toList (by omega) (fun j hj => by
  rw [List.getElem?_eq_getElem (show j < a.data.toList.length by omega), List.getElem?_eq_getElem (show j < b.data.toList.length by omega)]
  exact congrArg some (h j (by omega) hj)) (by omega)]
 rw [List.drop_eq_getElem_cons (show i < a.data.toList.length by omega), List.drop_eq_getElem_cons (show i < b.data.toList.length by omega)]
 simp only [Op.bytesLess]
 have e : (a.data.toList[i]'(by omega) == b.data.toList[i]'(by omega)) = false := by rw [beq_eq_false_iff_ne]; exact hne
 rw [e]
 simp only [Bool.false_and, Bool.or_false]
 rw [decide_eq_decide]
 exact UInt8.lt_iff_toNat_lt
theorem bytesLess_self : ∀ l : List UInt8, Op.bytesLess l l = false
 | [] => rfl
 | x :: l => by
  have : ¬ x < x := by simp
  simp [Op.bytesLess, this, bytesLess_self l]
theorem wless_same {a b : ByteArray} (hs : a.size = b.size) (h : ∀ j, (h1 : j < a.size) → a[j] = b[j]'(by omega)) : wless a b = false := by
 unfold wless
 rw [if_pos hs, ByteArray.toList_eq, ByteArray.toList_eq]
 have : a.data.toList = b.data.toList := List.ext_getElem (by simpa using hs) (fun j h1 h2 => h j (by simpa using h1))
 rw [this, bytesLess_self]

end Go.Proofs.Ytpiofcjkekpboaa
