/- Texts of one proof, laid together: Base AtP WdP. -/
import Derived.WalkKit
import Derived.WalkSpells
import Derived.Deep.AppendLies
import Derived.Maps.OwnSet
import Derived.Maps.Views
import Derived.Lib.Hide
import Derived.Deep.QuietTactic
import Derived.BigQuiet
set_option maxRecDepth 100000
set_option maxHeartbeats 16000000

set_option linter.unusedSimpArgs false
set_option linter.unusedVariables false
/- General: 'Chg S w w'': the world w' is w but for the blocks of S and for new blocks. No program in sight. -/
namespace Go.Proofs.YtedaffmkpljlnaaGreat
open Go.RowKit

structure Chg (S : Nat → Prop) (w w' : World) : Prop where
  os : w'.os = w.os
  tape : w'.tape = w.tape
  output : w'.output = w.output
  size : w.heap.size ≤ w'.heap.size
  block : ∀ k, k < w.heap.size → ¬ S k → w'.heap[k]? = w.heap[k]?

namespace Chg
variable {S S' : Nat → Prop} {w w1 w2 : World}
theorem refl (S : Nat → Prop) (w : World) : Chg S w w := ⟨rfl, rfl, rfl, Nat.le_refl _, fun _ _ _ => rfl⟩
theorem trans (h : Chg S w w1) (h' : Chg S' w1 w2) (hs : ∀ k, k < w.heap.size → S' k → S k) : Chg S w w2 :=
  ⟨h'.os.trans h.os, h'.tape.trans h.tape, h'.output.trans h.output, Nat.le_trans h.size h'.size,
   fun k hk hn => (h'.block k (Nat.lt_of_lt_of_le hk h.size) (fun x => hn (hs k hk x))).trans (h.block k hk hn)⟩
theorem mono (h : Chg S w w1) (hs : ∀ k, k < w.heap.size → S k → S' k) : Chg S' w w1 :=
 ⟨h.os, h.tape, h.output, h.size, fun k hk hn => h.block k hk (fun x => hn (hs k hk x))⟩
theorem alloc (h : Chg S w w1) (o : Obj) : Chg S w (w1.alloc o) :=
 h.trans (S' := fun _ => False) ⟨rfl, rfl, rfl, by simp, fun k hk _ => Below.heap_alloc w1 o k hk⟩ (fun _ _ x => x.elim)
theorem drew (h : Chg S w w1) : Chg S w w1.drew := ⟨h.os, h.tape, h.output, h.size, h.block⟩
theorem drewN (h : Chg S w w1) (n : Nat) : Chg S w (w1.drewN n) := ⟨h.os, h.tape, h.output, h.size, h.block⟩
theorem setCell (h : Chg S w w1) (a : Addr) (u : Value) (ha : a.block < w.heap.size → S a.block) : Chg S w (w1.setCell a u) :=
 h.trans (S' := fun k => k = a.block) ⟨rfl, rfl, rfl, by simp [World.setCell], fun k _ hn => Below.heap_setCell _ _ _ _ hn⟩ (fun k hk e => by subst e; exact ha hk)
theorem grown {row : Option Nat} (h : Chg S w w1) (hg : w1.grownBy w2 row) (hr : ∀ k, row = some k → k < w.heap.size → S k) : Chg S w w2 :=
 h.trans (S' := fun k => row = some k) ⟨hg.os, hg.tape, hg.output, hg.size, fun k hk hn => hg.block k hk (fun e => hn e.symm)⟩ (fun k hk e => hr k e hk)
theorem below {B : Nat} (h : Below B w w1) : Chg (fun k => B ≤ k) w w1 :=
 ⟨h.os, h.tape, h.output, h.size, fun k _ hn => h.block k (by omega)⟩
theorem ext (h : Below w.heap.size w w1) : Chg S w w1 := ⟨h.os, h.tape, h.output, h.size, fun k hk _ => h.block k hk⟩
theorem toBelow {B : Nat} (h : Chg S w w1) (hB : B ≤ w.heap.size) (hs : ∀ k, S k → B ≤ k) : Below B w w1 :=
 ⟨h.os, h.tape, h.output, h.size, fun k hk => h.block k (by omega) (fun x => by have := hs k x; omega)⟩
theorem cell (h : Chg S w w1) {a : Addr} (hn : ¬ S a.block) {v : Value} (hc : w.cell? a = some v) : w1.cell? a = some v :=
 (World.cell?_of_block (h.block a.block (World.block_lt_of_cell? w a hc) hn)).trans hc
theorem heap (h : Chg S w w1) {k : Nat} {o : Obj} (hn : ¬ S k) (hc : w.heap[k]? = some o) : w1.heap[k]? = some o := by
 rw [h.block k (lt_of_block hc) hn]; exact hc
end Chg

theorem cell_alloc {w : World} {a : Addr} {v : Value} (hc : w.cell? a = some v) (o : Obj) : (w.alloc o).cell? a = some v := by
 rw [World.cell?_of_block (w := w) (Below.heap_alloc w o a.block (World.block_lt_of_cell? w a hc))]; exact hc
theorem frozen_alloc {w : World} {a : Addr} {v : Value} (hc : w.cell? a = some v) (hf : w.frozen? a = false) (o : Obj) : (w.alloc o).frozen? a = false := by
 rw [World.frozen?_of_block (w := w) (Below.heap_alloc w o a.block (World.block_lt_of_cell? w a hc))]; exact hf
theorem grow_cell {X w1 : World} {row : Option Nat} {a : Addr} {v : Value} (h : X.grownBy w1 row) (hc : X.cell? a = some v) (hne : row ≠ some a.block) : w1.cell? a = some v := by
 rw [h.cell_far a (World.block_lt_of_cell? X a hc) (fun e => hne e.symm)]; exact hc
theorem grow_frozen {X w1 : World} {row : Option Nat} {a : Addr} {v : Value} (h : X.grownBy w1 row) (hc : X.cell? a = some v) (hf : X.frozen? a = false) (hne : row ≠ some a.block) : w1.frozen? a = false := by
 rw [h.frozen_far a (World.block_lt_of_cell? X a hc) (fun e => hne e.symm)]; exact hf

def RowOf (w : World) (a : Option Addr) (xs : List Value) : Prop :=
 xs = [] ∨ ∃ b off, a = some ⟨b, off, none⟩ ∧ ∀ j u, xs[j]? = some u → w.cell? ⟨b, off + j, none⟩ = some u

theorem RowOf.nil (w : World) (a : Option Addr) : RowOf w a [] := .inl rfl
theorem RowOf.kept {w w' : World} {a : Option Addr} {xs : List Value} {S : Nat → Prop} (h : RowOf w a xs) (hc : Chg S w w') (hn : ∀ ad, a = some ad → ¬ S ad.block) : RowOf w' a xs := by
 rcases h with h | ⟨b, off, rfl, h⟩
 ·exact .inl h
 ·exact .inr ⟨b, off, rfl, fun j u hu => hc.cell (a := ⟨b, off + j, none⟩) (hn ⟨b, off, none⟩ rfl) (h j u hu)⟩
theorem RowOf.ext {w w' : World} {a : Option Addr} {xs : List Value} (h : RowOf w a xs) (hc : Below w.heap.size w w') : RowOf w' a xs := by
 rcases h with h | ⟨b, off, rfl, h⟩
 ·exact .inl h
 ·exact .inr ⟨b, off, rfl, fun j u hu => by rw [hc.cell (World.block_lt_of_cell? w _ (h j u hu))]; exact h j u hu⟩
theorem RowOf.of_owns {w : World} {base : Nat} {e : TypeId} {a : Option Addr} {n cap : Nat} {xs : List Value} (h : w.ownsRow base e 1 (.slice a n cap) n xs) : RowOf w a xs := by
 rcases h.2 with ⟨hv, h0⟩ | ⟨g, c, cur, hv, hg, hh, hnc, hcm, hcs, ht⟩
 ·left; have := h.1; rw [h0] at this; exact List.eq_nil_of_length_eq_zero (by simpa using this)
 ·injection hv with hv _ _
  refine .inr ⟨g, 0, hv, fun j u hu => ?_⟩
  rw [← ht, List.getElem?_take] at hu
  split at hu
  ·rw [Nat.zero_add, cell_of_row w g j cur e (0, 0) hh]; simpa using hu
  ·cases hu

theorem ret_bool {a b : Bool} (h : a = b) : Ending.returned (.bool a) = .returned (.bool b) := by rw [h]
theorem ret_int {k : IntKind} {a b : Int} (h : a = b) : Ending.returned (.int k a) = .returned (.int k b) := by rw [h]
def Drawn (w w' : World) : Prop := ∃ n, w' = w.drewN n
theorem str_eq {x s : ByteArray} (h : x = s) : (x.toList == s.toList) = true := by subst h; simp
theorem str_ne {x s : ByteArray} (h : x ≠ s) : (x.toList == s.toList) = false := by
 rw [beq_eq_false_iff_ne]
 intro e
 rw [ByteArray.toList_eq, ByteArray.toList_eq] at e
 exact h (WideShapes.bytes_inj e)
theorem str_iff {x s : ByteArray} : (x.toList == s.toList) = decide (x = s) := by
 by_cases h : x = s
 ·rw [str_eq h, decide_eq_true h]
 ·rw [str_ne h, decide_eq_false h]

theorem add_none (b off j : Nat) : (⟨b, off, none⟩ : Addr).add j = ⟨b, off + j, none⟩ := by
 unfold Addr.add; split
 ·next h => subst h; rfl
 ·rfl

theorem owns_form {w : World} {base : Nat} {e : TypeId} {size : Nat} {v : Value} {n : Nat} {xs : List Value} (h : w.ownsRow base e size v n xs) : ∃ a cap, v = .slice a n cap ∧ (a = none → cap = 0) := by
 rcases h.2 with ⟨rfl, rfl⟩ | ⟨g, cap, cur, rfl, _⟩
 ·exact ⟨_, _, rfl, fun _ => rfl⟩
 ·exact ⟨_, _, rfl, fun h => by cases h⟩

section
variable {P : Program} (w : World)

theorem run_append_row (base : Nat) (t ty e : TypeId) (i : TypeInfo) (z : Value) (size bytes : Nat) (ht : P.underlying t = some (.slice e)) (hi : P.info? e = some i) (hz : i.zero = some z)
  (hsize : i.size = size) (hby : i.bytes = bytes) (hzs : z.cells.size = size) (hsz : 0 < size)
  (v : Value) (n : Nat) (xs : List Value) (hown : w.ownsRow base e size v n xs)
  (a : Option Addr) (m c : Nat) (news : List Value) (hl : news.length = m * size) (hrow : RowOf w a news) (hc : a = none → c = 0) (h1 : ∀ u ∈ news, u.oneCell' = true)
  (h63 : n + m ≤ maxLen) (hbytes : (n + m) * bytes ≤ 140737488355328) (hbase : base ≤ w.heap.size) :
  ∃ a' cap' w', (Builtin.append_ #[t, t] ty #[v, .slice a m c]).run P w = .ok (.slice a' (n + m) cap') w' ∧ w'.ownsRow base e size (.slice a' (n + m) cap') (n + m) (xs ++ news) ∧ w.grownBy w' v.ownBlock ∧
   ((Value.slice a' (n + m) cap').ownBlock = v.ownBlock ∨ (Value.slice a' (n + m) cap').ownBlock = some w.heap.size) ∧ (a' = none → cap' = 0) := by
 cases a with
 | none =>
  have hn : news = [] := by
   rcases hrow with h | ⟨b, off, h, _⟩
   ·exact h
   ·cases h
  subst hn
  have hm : m = 0 := by
   rcases Nat.eq_zero_or_pos m with h | h
   ·exact h
   ·have := Nat.mul_pos h hsz; simp at hl; omega
  subst hm
  obtain rfl := hc rfl
  have hrun := run_append_owned_none (P := P) (w := w) base t ty e i size ht hi v n xs hown
  obtain ⟨a', cap', rfl, hcap⟩ := owns_form hown
  exact ⟨a', cap', w, hrun, by simpa using hown, ⟨rfl, rfl, rfl, Nat.le_refl _, fun _ _ _ => rfl⟩, .inl rfl, hcap⟩
 | some ad =>
  obtain ⟨v', w', h1, h2, h3, _, h5⟩ := run_append_own_at (P := P) w base t ty e i z size bytes ht hi hz hsize hby hzs hsz v n xs hown ad m c news hl
   (fun j u hu => by
    rcases hrow with h | ⟨b, off, h, hcell⟩
    ·rw [h] at hu; simp at hu
    ·injection h with h; subst h; rw [add_none]; exact hcell j u hu) h1 h63 hbytes hbase
  obtain ⟨a', cap', rfl, hcap⟩ := owns_form h2
  exact ⟨a', cap', w', h1, h2, h3, h5, hcap⟩

theorem wp_append_row {o : Oper} {a : Act} {K : Act → World → Prop} {Q : Exit → Act → World → Prop} (s x : Operand) (t : TypeId)
  (ho : o.op = .call { callee := .builtin .append, args := #[s, x], argTypes := #[t, t] })
  (base : Nat) (e : TypeId) (i : TypeInfo) (z : Value) (size bytes : Nat) (ht : P.underlying t = some (.slice e)) (hi : P.info? e = some i) (hz : i.zero = some z)
  (hsize : i.size = size) (hby : i.bytes = bytes) (hzs : z.cells.size = size) (hsz : 0 < size)
  (v : Value) (n : Nat) (xs : List Value) (hs : a.eval s = v) (hown : w.ownsRow base e size v n xs)
  (ad : Option Addr) (m c : Nat) (news : List Value) (hx : a.eval x = .slice ad m c) (hl : news.length = m * size) (hrow : RowOf w ad news) (hc : ad = none → c = 0) (h1 : ∀ u ∈ news, u.oneCell' = true)
  (h63 : n + m ≤ maxLen) (hbytes : (n + m) * bytes ≤ 140737488355328) (hbase : base ≤ w.heap.size)
  (h : ∀ a' cap' w', w'.ownsRow base e size (.slice a' (n + m) cap') (n + m) (xs ++ news) → w.grownBy w' v.ownBlock →
   ((Value.slice a' (n + m) cap').ownBlock = v.ownBlock ∨ (Value.slice a' (n + m) cap').ownBlock = some w.heap.size) → (a' = none → cap' = 0) → K (a.put o.dst (.slice a' (n + m) cap')) w') : o.wp P a w K Q := by
 obtain ⟨a', cap', w', hr, h2, h3, h4, h5⟩ := run_append_row (P := P) w base t o.type e i z size bytes ht hi hz hsize hby hzs hsz v n xs hown ad m c news hl hrow hc h1 h63 hbytes hbase
 unfold Oper.wp execOp
 simp only [ho, resolve, invoke, builtin, Sem.run_bind, Sem.run_pure, Result.andThen_ok, List.map_toArray, List.map_cons, List.map_nil, hs, hx, hr]
 exact h a' cap' w' h2 h3 h4 h5

theorem wpList_append_row {ops : Array Oper} {rest : List Oper} {o : Oper} {a : Act} {Q : Exit → Act → World → Prop} (hgd : o.guard = none) (s x : Operand) (t : TypeId)
  (ho : o.op = .call { callee := .builtin .append, args := #[s, x], argTypes := #[t, t] })
  (base : Nat) (e : TypeId) (i : TypeInfo) (z : Value) (size bytes : Nat) (ht : P.underlying t = some (.slice e)) (hi : P.info? e = some i) (hz : i.zero = some z)
  (hsize : i.size = size) (hby : i.bytes = bytes) (hzs : z.cells.size = size) (hsz : 0 < size)
  (v : Value) (n : Nat) (xs : List Value) (hs : a.eval s = v) (hown : w.ownsRow base e size v n xs)
  (ad : Option Addr) (m c : Nat) (news : List Value) (hx : a.eval x = .slice ad m c) (hl : news.length = m * size) (hrow : RowOf w ad news) (hc : ad = none → c = 0) (h1 : ∀ u ∈ news, u.oneCell' = true)
  (h63 : n + m ≤ maxLen) (hbytes : (n + m) * bytes ≤ 140737488355328) (hbase : base ≤ w.heap.size)
  (h : ∀ a' cap' w', w'.ownsRow base e size (.slice a' (n + m) cap') (n + m) (xs ++ news) → w.grownBy w' v.ownBlock →
   ((Value.slice a' (n + m) cap').ownBlock = v.ownBlock ∨ (Value.slice a' (n + m) cap').ownBlock = some w.heap.size) → (a' = none → cap' = 0) → wpList P ops Q rest (a.put o.dst (.slice a' (n + m) cap')) w') : wpList P ops Q (o :: rest) a w :=
 wpList_plain hgd fun _ hK => wp_append_row w s x t ho base e i z size bytes ht hi hz hsize hby hzs hsz v n xs hs hown ad m c news hx hl hrow hc h1 h63 hbytes hbase fun a' cap' w' h2 h3 h4 h5 => hK _ _ (h a' cap' w' h2 h3 h4 h5)

theorem step_append_row {ops : Array Oper} {o : Oper} {a : Act} {K : Act → World → Prop} {Q : Exit → Act → World → Prop} {E : Prop} (hgd : o.guard = none) (s x : Operand) (t : TypeId)
  (ho : o.op = .call { callee := .builtin .append, args := #[s, x], argTypes := #[t, t] })
  (base : Nat) (e : TypeId) (i : TypeInfo) (z : Value) (size bytes : Nat) (ht : P.underlying t = some (.slice e)) (hi : P.info? e = some i) (hz : i.zero = some z)
  (hsize : i.size = size) (hby : i.bytes = bytes) (hzs : z.cells.size = size) (hsz : 0 < size)
  (v : Value) (n : Nat) (xs : List Value) (hs : a.eval s = v) (hown : w.ownsRow base e size v n xs)
  (ad : Option Addr) (m c : Nat) (news : List Value) (hx : a.eval x = .slice ad m c) (hl : news.length = m * size) (hrow : RowOf w ad news) (hc : ad = none → c = 0) (h1 : ∀ u ∈ news, u.oneCell' = true)
  (h63 : n + m ≤ maxLen) (hbytes : (n + m) * bytes ≤ 140737488355328) (hbase : base ≤ w.heap.size)
  (h : ∀ a' cap' w', w'.ownsRow base e size (.slice a' (n + m) cap') (n + m) (xs ++ news) → w.grownBy w' v.ownBlock →
   ((Value.slice a' (n + m) cap').ownBlock = v.ownBlock ∨ (Value.slice a' (n + m) cap').ownBlock = some w.heap.size) → (a' = none → cap' = 0) → K (a.put o.dst (.slice a' (n + m) cap')) w') :
  if Region.wanted o (yielded ops a.tmps) = true then Oper.wp P o a w K Q else E := by
 have hw : Region.wanted o (yielded ops a.tmps) = true := by simp [Region.wanted, hgd]
 rw [if_pos hw]
 exact wp_append_row w s x t ho base e i z size bytes ht hi hz hsize hby hzs hsz v n xs hs hown ad m c news hx hl hrow hc h1 h63 hbytes hbase h
end

theorem own_empty {X : World} {g : Nat} {t : TypeId} (h : X.heap[g]? = some (.cells #[] t (0, 0))) : X.ownsRow 0 t 1 (.slice (some ⟨g, 0, none⟩) 0 0) 0 [] :=
 ⟨by simp, .inr ⟨g, 0, #[], rfl, Nat.zero_le _, h, Nat.le_refl _, Nat.zero_le _, by simp, by simp⟩⟩
theorem RowOf.later {w X : World} {a : Option Addr} {xs : List Value} (h : RowOf w a xs) (hX : ∀ j, j < w.heap.size → X.heap[j]? = w.heap[j]?) : RowOf X a xs := by
 rcases h with h | ⟨b, off, rfl, h⟩
 ·exact .inl h
 ·exact .inr ⟨b, off, rfl, fun j u hu => by rw [World.cell?_of_block (w := w) (hX b (World.block_lt_of_cell? w _ (h j u hu)))]; exact h j u hu⟩
theorem row_one {X : World} {g : Nat} {v : Value} (h : X.cell? ⟨g, 0, none⟩ = some v) : RowOf X (some ⟨g, 0, none⟩) [v] :=
 .inr ⟨g, 0, rfl, fun j u hu => by
  match j, hu with
  | 0, hu => simp at hu; subst hu; simpa using h
  | j + 1, hu => simp at hu⟩
theorem hp_new (w : World) (o : Obj) : (w.alloc o).heap[w.heap.size]? = some o := heap_alloc_new w o
theorem hp_new1 (w : World) (o o' : Obj) : ((w.alloc o).alloc o').heap[w.heap.size]? = some o := heap_alloc2_old w o o'
theorem hp_new2 (w : World) (o o' : Obj) : ((w.alloc o).alloc o').heap[w.heap.size + 1]? = some o' := heap_alloc2_new w o o'
theorem hp_old1 (w : World) (o : Obj) (j : Nat) (h : j < w.heap.size) : (w.alloc o).heap[j]? = w.heap[j]? := Below.heap_alloc w o j h
theorem hp_old2 (w : World) (o o' : Obj) (j : Nat) (h : j < w.heap.size) : ((w.alloc o).alloc o').heap[j]? = w.heap[j]? := by
 rw [Below.heap_alloc _ _ j (by simp; omega), Below.heap_alloc w o j h]
theorem cell_new1 (w : World) (v : Value) (t : TypeId) (o' : Obj) : ((w.alloc (.cells #[v] t)).alloc o').cell? ⟨w.heap.size, 0, none⟩ = some v := by
 rw [cell_of_row _ _ _ _ _ _ (hp_new1 w _ _)]; rfl
theorem cell_new2 (w : World) (v : Value) (t : TypeId) (o : Obj) : ((w.alloc o).alloc (.cells #[v] t)).cell? ⟨w.heap.size + 1, 0, none⟩ = some v := by
 rw [cell_of_row _ _ _ _ _ _ (hp_new2 w _ _)]; rfl
theorem own_ge {v : Value} {x y : Option Nat} {B : Nat} (h : v.ownBlock = x ∨ v.ownBlock = y) (h1 : ∀ k, x = some k → B ≤ k) (h2 : ∀ k, y = some k → B ≤ k) : ∀ k, v.ownBlock = some k → B ≤ k := by
 intro k hk
 rcases h with h | h
 ·exact h1 k (h ▸ hk)
 ·exact h2 k (h ▸ hk)
theorem bel1 (w : World) (o : Obj) : Below w.heap.size w (w.alloc o) := (Below.refl _ w).alloc (Nat.le_refl _) o
theorem bel2 (w : World) (o o' : Obj) : Below w.heap.size w ((w.alloc o).alloc o') := (bel1 w o).alloc (by simp) o'
theorem some_ge {B g : Nat} (h : B ≤ g) : ∀ k, some g = some k → B ≤ k := by intro k e; injection e with e; omega

end Go.Proofs.YtedaffmkpljlnaaGreat
/- The plain part for package atom: tables as lists of names. No program in sight. -/
namespace Go.Proofs.YtedaffmkpljlnaaGreat
open Go.RowKit Go.Maps

def okAt (i : Nat) (c : Nat) : Bool := decide (97 ≤ c ∧ c ≤ 122) || (decide (i ≠ 0) && (decide (48 ≤ c ∧ c ≤ 57) || decide (c = 45) || decide (c = 46)))
def mayB (s : ByteArray) : Bool := decide (1 ≤ s.size ∧ s.size ≤ 24 ∧ ∀ j, (h : j < s.size) → okAt j s[j].toNat = true)

theorem may_no (s : ByteArray) (k : Nat) (h : k < s.size) (hn : okAt k s[k].toNat = false) : mayB s = false := by
 simp only [mayB, decide_eq_false_iff_not]
 rintro ⟨_, _, h3⟩
 have := h3 k h
 simp [hn] at this
theorem may_yes (s : ByteArray) (k : Nat) (h : s.size ≤ k) (h1 : 1 ≤ s.size) (h2 : s.size ≤ 24) (hn : ∀ j, (h : j < s.size) → j < k → okAt j s[j].toNat = true) : mayB s = true := by
 simp only [mayB, decide_eq_true_eq]
 exact ⟨h1, h2, fun j hj => hn j hj (by omega)⟩
theorem may_step {s : ByteArray} {k : Nat} (h : ∀ j, (h : j < s.size) → j < k → okAt j s[j].toNat = true) (hk : (h : k < s.size) → okAt k s[k].toNat = true) : ∀ j, (h : j < s.size) → j < k + 1 → okAt j s[j].toNat = true := by
 intro j hj hjk
 by_cases e : j = k
 ·subst e; exact hk hj
 ·exact h j hj (by omega)

def posOf (s : ByteArray) : List ByteArray → Nat
 | [] => 0
 | x :: xs => if x = s then 0 else posOf s xs + 1

theorem posOf_le (s : ByteArray) : ∀ l, posOf s l ≤ l.length
 | [] => Nat.le_refl _
 | x :: xs => by
  simp only [posOf, List.length_cons]
  split
  ·omega
  ·have := posOf_le s xs; omega
theorem posOf_mem {s : ByteArray} : ∀ {l : List ByteArray}, posOf s l < l.length ↔ s ∈ l
 | [] => by simp [posOf]
 | x :: xs => by
  simp only [posOf, List.length_cons, List.mem_cons]
  by_cases e : x = s
  ·simp [e]
  ·have := @posOf_mem s xs
   simp [e, Ne.symm e, ← this]
instance memDec (s : ByteArray) (l : List ByteArray) : Decidable (s ∈ l) := decidable_of_iff (posOf s l < l.length) posOf_mem
theorem posOf_none {s : ByteArray} {l : List ByteArray} (h : s ∉ l) : posOf s l = l.length := by
 have := posOf_le s l
 have h2 := (not_congr (@posOf_mem s l)).2 h
 omega
theorem posOf_append_left {s : ByteArray} : ∀ {l : List ByteArray} (r : List ByteArray), s ∈ l → posOf s (l ++ r) = posOf s l
 | [], r, h => by cases h
 | x :: xs, r, h => by
  simp only [List.cons_append, posOf]
  by_cases e : x = s
  ·simp [e]
  ·simp [e]
   rcases List.mem_cons.1 h with h | h
   ·exact absurd h.symm e
   ·exact posOf_append_left r h
theorem posOf_append_right {s : ByteArray} : ∀ {l : List ByteArray} (r : List ByteArray), s ∉ l → posOf s (l ++ r) = l.length + posOf s r
 | [], r, _ => by simp
 | x :: xs, r, h => by
  simp only [List.mem_cons, not_or] at h
  have e : ¬ x = s := fun e => h.1 e.symm
  simp [posOf, e, posOf_append_right r h.2]
  omega
theorem posOf_of_get {s : ByteArray} : ∀ {l : List ByteArray} {i : Nat}, l[i]? = some s → (∀ j, j < i → l[j]? ≠ some s) → posOf s l = i
 | [], i, h, _ => by simp at h
 | x :: xs, 0, h, _ => by simp at h; simp [posOf, h]
 | x :: xs, i + 1, h, hn => by
  have h0 := hn 0 (by omega)
  simp at h h0
  simp only [posOf, if_neg h0]
  rw [posOf_of_get h (fun j hj => by have := hn (j + 1) (by omega); simpa using this)]

def upd (L : Nat → List ByteArray) (k : Nat) (l : List ByteArray) : Nat → List ByteArray := fun j => if j = k then l else L j
theorem upd_same (L : Nat → List ByteArray) (k : Nat) (l : List ByteArray) : upd L k l k = l := by simp [upd]
theorem upd_other (L : Nat → List ByteArray) {k j : Nat} (l : List ByteArray) (h : j ≠ k) : upd L k l j = L j := by simp [upd, h]

def putL (L : Nat → List ByteArray) (kd : Int) (s : ByteArray) : Nat → List ByteArray :=
 if 1 ≤ kd ∧ kd ≤ 5 ∧ mayB s = true ∧ s ∉ L kd.toNat ∧ (L kd.toNat).length < 4000 then upd L kd.toNat (L kd.toNat ++ [s]) else L
def putE (L : Nat → List ByteArray) (kd : Int) (s : ByteArray) : Int :=
 if kd < 1 ∨ 5 < kd then 1 else if mayB s = false then 2 else if s ∈ L kd.toNat then 0 else if (L kd.toNat).length < 4000 then 0 else 3
def putA (L : Nat → List ByteArray) (kd : Int) (s : ByteArray) : Int := if putE L kd s = 0 then 8192 * kd + (posOf s (L kd.toNat) + 1) else 0
def findB (L : Nat → List ByteArray) (kd : Int) (s : ByteArray) : Bool := decide (1 ≤ kd ∧ kd ≤ 5 ∧ s ∈ L kd.toNat)
def findA (L : Nat → List ByteArray) (kd : Int) (s : ByteArray) : Int := if findB L kd s = true then 8192 * kd + (posOf s (L kd.toNat) + 1) else 0
def nameB (L : Nat → List ByteArray) (a : Nat) : Bool := decide (a = 1 ∨ (1 ≤ a / 8192 ∧ a / 8192 ≤ 5 ∧ 1 ≤ a % 8192 ∧ a % 8192 ≤ (L (a / 8192)).length))
def nameS (L : Nat → List ByteArray) (a : Nat) : ByteArray := if a = 1 then ⟨#[68]⟩ else if nameB L a = true then (L (a / 8192)).getD (a % 8192 - 1) ByteArray.empty else ByteArray.empty
structure DictOf (k : Nat) (l : List ByteArray) (D : DataW Unit) : Prop where
  isMap : IsMap D
  has : ∀ s : ByteArray, Maps.has D (.string s.data.toList) = decide (s ∈ l)
  at_ : ∀ s : ByteArray, s ∈ l → D.atKey (.string s.data.toList) (.lit (.int .u16 0)) = .lit (.int .u16 (8192 * k + (posOf s l + 1)))

theorem lit_ne {s t : ByteArray} (h : s ≠ t) : (Lit.string s.data.toList) ≠ Lit.string t.data.toList := by
 intro e
 injection e with e
 apply h
 cases s with | mk a => cases t with | mk c => exact congrArg ByteArray.mk (Array.toList_inj.1 e)

theorem dict_nil (k : Nat) : DictOf k [] (.map []) := ⟨isMap_empty, fun s => by simp [Maps.has], fun s h => by cases h⟩

theorem dict_snoc {k : Nat} {l : List ByteArray} {D : DataW Unit} (h : DictOf k l D) (s : ByteArray) (hs : s ∉ l) :
  DictOf k (l ++ [s]) (D.put (.string s.data.toList) (.lit (.int .u16 (8192 * k + (l.length + 1))))) := by
 refine ⟨h.isMap.put _ _, fun t => ?_, fun t ht => ?_⟩
 ·by_cases e : t = s
  ·subst e; rw [has_put_same h.isMap (by exact ⟨⟩)]; simp
  ·rw [has_put_other (lit_ne e), h.has]; simp [e]
 ·by_cases e : t = s
  ·subst e; rw [atKey_put_same h.isMap (by exact ⟨⟩), posOf_append_right _ hs]; simp [posOf]
  ·have ht' : t ∈ l := by simpa [e] using ht
   rw [atKey_put_other (lit_ne e), h.at_ t ht', posOf_append_left _ ht']

def loadStep (k : Nat) (st : (Nat → List ByteArray) × Int) (s : ByteArray) : (Nat → List ByteArray) × Int :=
 if st.2 ≠ 0 then st else if s ∈ st.1 k then (st.1, 11) else if putE st.1 k s ≠ 0 then (st.1, putE st.1 k s) else (putL st.1 k s, 0)
def loadKind (ls : Nat → List ByteArray) (st : (Nat → List ByteArray) × Int) (k : Nat) : (Nat → List ByteArray) × Int := (ls k).foldl (loadStep k) st
def loadTo (ls : Nat → List ByteArray) : Nat → (Nat → List ByteArray) × Int
 | 0 => (fun _ => [], 0)
 | j + 1 => loadKind ls (loadTo ls j) (j + 1)

theorem loadStep_err {k : Nat} {st : (Nat → List ByteArray) × Int} (h : st.2 ≠ 0) (s : ByteArray) : loadStep k st s = st := by simp [loadStep, h]
theorem load_err {k : Nat} {st : (Nat → List ByteArray) × Int} (h : st.2 ≠ 0) : ∀ l : List ByteArray, l.foldl (loadStep k) st = st
 | [] => rfl
 | s :: r => by rw [List.foldl_cons, loadStep_err h, load_err h r]
theorem loadTo_err {ls : Nat → List ByteArray} {j : Nat} (h : (loadTo ls j).2 ≠ 0) : ∀ d, loadTo ls (j + d) = loadTo ls j
 | 0 => rfl
 | d + 1 => by
  have := loadTo_err h d
  show loadKind ls (loadTo ls (j + d)) (j + d + 1) = _
  rw [this, loadKind, load_err h]
theorem loadTo_fails {ls : Nat → List ByteArray} {j i : Nat} {st : (Nat → List ByteArray) × Int} {s : ByteArray} (hj : j < 5) (h : ((ls (j + 1)).take i).foldl (loadStep (j + 1)) (loadTo ls j) = st)
  (hs : (ls (j + 1))[i]? = some s) (he : (loadStep (j + 1) st s).2 ≠ 0) : (loadTo ls 5).2 = (loadStep (j + 1) st s).2 := by
 have hi : i < (ls (j + 1)).length := (List.getElem?_eq_some_iff.1 hs).1
 have e : ls (j + 1) = (ls (j + 1)).take i ++ s :: (ls (j + 1)).drop (i + 1) := by
  conv => lhs; rw [← List.take_append_drop i (ls (j + 1))]
  rw [List.drop_eq_getElem_cons hi, (List.getElem?_eq_some_iff.1 hs).2]
 have h1 : loadTo ls (j + 1) = loadStep (j + 1) st s := by
  show (ls (j + 1)).foldl _ _ = _
  rw [e, List.foldl_append, h, List.foldl_cons, load_err he]
 have h2 := loadTo_err (ls := ls) (j := j + 1) (by rw [h1]; exact he) (4 - j)
 rw [show j + 1 + (4 - j) = 5 by omega] at h2
 rw [h2, h1]
theorem take_foldl {α β : Type} (f : β → α → β) (l : List α) (b : β) (i : Nat) (x : α) (h : l[i]? = some x) : (l.take (i + 1)).foldl f b = f ((l.take i).foldl f b) x := by
 have hi : i < l.length := (List.getElem?_eq_some_iff.1 h).1
 rw [List.take_succ_eq_append_getElem hi, List.foldl_append, (List.getElem?_eq_some_iff.1 h).2]
 rfl

end Go.Proofs.YtedaffmkpljlnaaGreat
/- The plain part for words and sets: which words and sets may be, and how words are compared. No program in sight. -/
namespace Go.Proofs.YtedaffmkpljlnaaGreat
open Go.RowKit

def atomAt (s : ByteArray) (i : Nat) : Nat := if h : 2 * i + 1 < s.size then s[2 * i].toNat * 256 + s[2 * i + 1].toNat else 0
theorem atomAt_lt (s : ByteArray) (i : Nat) : atomAt s i < 65536 := by
 unfold atomAt; split
 ·next h => have := s[2 * i].toNat_lt; have := s[2 * i + 1].toNat_lt; omega
 ·omega
def wordMay (s : ByteArray) : Bool := decide (s.size % 2 = 0 ∧ 1 ≤ s.size / 2 ∧ s.size / 2 ≤ 8 ∧ ∀ i, i < s.size / 2 → atomAt s i ≠ 0)
theorem wordMay_size {s : ByteArray} (h : wordMay s = true) : s.size % 2 = 0 ∧ 2 ≤ s.size ∧ s.size ≤ 16 := by
 simp only [wordMay, decide_eq_true_eq] at h; omega
def wless (a b : ByteArray) : Bool := if a.size = b.size then Op.bytesLess a.toList b.toList else decide (a.size < b.size)
def rising : List ByteArray → Bool
 | [] => true
 | [_] => true
 | x :: y :: r => wless x y && rising (y :: r)
def setMay (l : List ByteArray) : Bool := decide (1 ≤ l.length ∧ l.length ≤ 16) && l.all wordMay && rising l

theorem rising_snoc : ∀ (l : List ByteArray) (x y : ByteArray), rising (l ++ [x, y]) = (rising (l ++ [x]) && wless x y)
 | [], x, y => by simp [rising]
 | [a], x, y => by simp [rising]
 | a :: b :: r, x, y => by
  have := rising_snoc (b :: r) x y
  simp only [List.cons_append] at this ⊢
  simp only [rising]
  rw [this, Bool.and_assoc]

def risingTo (l : List ByteArray) (k : Nat) : Bool := (l.take k).all wordMay && rising (l.take k)
theorem risingTo_zero (l : List ByteArray) : risingTo l 0 = true := by simp [risingTo, rising]
theorem risingTo_one {l : List ByteArray} {x : ByteArray} (h : l[0]? = some x) : risingTo l 1 = wordMay x := by
 cases l with
 | nil => simp at h
 | cons a r => simp at h; subst h; simp [risingTo, rising]
theorem risingTo_succ {l : List ByteArray} {k : Nat} {x y : ByteArray} (hx : l[k]? = some x) (hy : l[k + 1]? = some y) : risingTo l (k + 2) = (risingTo l (k + 1) && (wordMay y && wless x y)) := by
 have h1 : l.take (k + 1) = l.take k ++ [x] := by
  obtain ⟨hk, e⟩ := List.getElem?_eq_some_iff.1 hx
  rw [List.take_succ_eq_append_getElem hk, e]
 have h2 : l.take (k + 2) = l.take (k + 1) ++ [y] := by
  obtain ⟨hk, e⟩ := List.getElem?_eq_some_iff.1 hy
  rw [List.take_succ_eq_append_getElem hk, e]
 unfold risingTo
 rw [h2, h1, List.append_assoc]
 show (List.all (l.take k ++ [x, y]) wordMay && rising (l.take k ++ [x, y])) = _
 rw [rising_snoc]
 simp only [List.all_append, List.all_cons, List.all_nil, Bool.and_true]
 cases (l.take k).all wordMay <;> cases wordMay x <;> cases wordMay y <;> cases rising (l.take k ++ [x]) <;> cases wless x y <;> rfl
theorem risingTo_mono {l : List ByteArray} {k : Nat} (h : risingTo l k = false) : ∀ d, risingTo l (k + d) = false
 | 0 => h
 | d + 1 => by
  have hd := risingTo_mono h d
  by_cases hk : k + d < l.length
  ·cases hkd : k + d with
   | zero => rw [hkd, risingTo_zero] at hd; cases hd
   | succ m =>
    have hm : m < l.length := by omega
    have hm1 : m + 1 < l.length := by omega
    have e := risingTo_succ (l := l) (k := m) (List.getElem?_eq_getElem hm) (List.getElem?_eq_getElem hm1)
    rw [hkd] at hd
    rw [hd] at e
    rw [← Nat.add_assoc, hkd]
    exact e
  ·have e1 : l.take (k + (d + 1)) = l := List.take_of_length_le (by omega)
   have e2 : l.take (k + d) = l := List.take_of_length_le (by omega)
   unfold risingTo at hd ⊢
   rw [e1]; rw [e2] at hd; exact hd
theorem setMay_eq (l : List ByteArray) (h1 : 1 ≤ l.length) (h2 : l.length ≤ 16) : setMay l = risingTo l l.length := by
 unfold setMay risingTo
 rw [decide_eq_true ⟨h1, h2⟩, List.take_length]; simp
theorem setMay_no {l : List ByteArray} {k : Nat} (hk : k ≤ l.length) (h : risingTo l k = false) : setMay l = false := by
 by_cases hl : 1 ≤ l.length ∧ l.length ≤ 16
 ·rw [setMay_eq l hl.1 hl.2]
  have := risingTo_mono h (l.length - k)
  rwa [show k + (l.length - k) = l.length by omega] at this
 ·unfold setMay; rw [decide_eq_false hl]; simp
theorem setMay_len {l : List ByteArray} (h : ¬ (1 ≤ l.length ∧ l.length ≤ 16)) : setMay l = false := by
 unfold setMay; rw [decide_eq_false h]; simp
theorem setMay_words {l : List ByteArray} (h : setMay l = true) : (1 ≤ l.length ∧ l.length ≤ 16) ∧ ∀ x ∈ l, wordMay x = true := by
 unfold setMay at h
 simp only [Bool.and_eq_true, decide_eq_true_eq, List.all_eq_true] at h
 exact ⟨h.1.1, h.1.2⟩

theorem bytesLess_take : ∀ (i : Nat) (a b : List UInt8), a.length = b.length → (∀ j, j < i → a[j]? = b[j]?) → i ≤ a.length → Op.bytesLess a b = Op.bytesLess (a.drop i) (b.drop i)
 | 0, a, b, _, _, _ => by simp
 | i + 1, [], b, _, _, h3 => by simp at h3
 | i + 1, x :: a, [], h1, _, _ => by simp at h1
 | i + 1, x :: a, y :: b, h1, h2, h3 => by
  have h0 := h2 0 (by omega)
  simp at h0; subst h0
  simp only [Op.bytesLess, List.drop_succ_cons]
  have : ¬ x < x := by simp
  simp only [this, decide_false, Bool.false_or, beq_self_eq_true, Bool.true_and]
  exact bytesLess_take i a b (by simpa using h1) (fun j hj => by simpa using h2 (j + 1) (by omega)) (by simpa using h3)
theorem wless_at {a b : ByteArray} {i : Nat} (hs : a.size = b.size) (hi : i < a.size) (h : ∀ j, (h1 : j < a.size) → j < i → a[j] = b[j]'(by omega)) (hne : a[i] ≠ b[i]'(by omega)) : wless a b = decide (a[i].toNat < (b[i]'(by omega)).toNat) := by
 unfold wless
 rw [if_pos hs, ByteArray.toList_eq, ByteArray.toList_eq]
 have ha : a.data.toList.length = a.size := by simp
 have hb : b.data.toList.length = b.size := by simp
 rw [bytesLess_take i a.data.toList b.data.toList (by omega) (fun j hj => by
  rw [List.getElem?_eq_getElem (show j < a.data.toList.length by omega), List.getElem?_eq_getElem (show j < b.data.toList.length by omega)]
  exact congrArg some (h j (by omega) hj)) (by omega)]
 rw [List.drop_eq_getElem_cons (show i < a.data.toList.length by omega), List.drop_eq_getElem_cons (show i < b.data.toList.length by omega)]
 simp only [Op.bytesLess]
 have e : (a.data.toList[i]'(by omega) == b.data.toList[i]'(by omega)) = false := by rw [beq_eq_false_iff_ne]; exact hne
 rw [e]
 simp only [Bool.false_and, Bool.or_false]
 rw [decide_eq_decide]
 exact UInt8.lt_iff_toNat_lt
theorem bytesLess_self : ∀ l : List UInt8, Op.bytesLess l l = false
 | [] => rfl
 | x :: l => by
  have : ¬ x < x := by simp
  simp [Op.bytesLess, this, bytesLess_self l]
theorem wless_same {a b : ByteArray} (hs : a.size = b.size) (h : ∀ j, (h1 : j < a.size) → a[j] = b[j]'(by omega)) : wless a b = false := by
 unfold wless
 rw [if_pos hs, ByteArray.toList_eq, ByteArray.toList_eq]
 have : a.data.toList = b.data.toList := List.ext_getElem (by simpa using hs) (fun j h1 h2 => h j (by simpa using h1))
 rw [this, bytesLess_self]

end Go.Proofs.YtedaffmkpljlnaaGreat
